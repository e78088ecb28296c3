/- The walk of the reference's From. -/
import Derived.Test.YtdmegkkifiahdaaGreatRefZ
import Derived.Test.YtdmegkkifiahdaaGreatShtO
import Derived.Test.YtdmegkkifiahdaaGreatShtH
import Derived.Deep.CutRange
namespace Go.Proofs.YtdmegkkifiahdaaGreat
open Go.RowKit
attribute [local go_sem] bqOp bqAll bqUpon sqOp sqAll sqUpon ssOp ssAll
attribute [local irreducible] wpQuiet wpBQ wpPlan wsPlan
set_option linter.unusedVariables false
theorem own_ints {base k : Nat} {w : World} {v : Value} {l : List Int} (h : OwnI base w v l) (hl : l.length ≤ 9223372036854775807) : IntsAt w v l := h.ints hl
theorem OwnI.far {base b i : Nat} {w : World} {v u : Value} {l : List Int} (h : OwnI base w v l) (hlt : b < base) : OwnI base (w.setCell ⟨b, i, none⟩ u) v l := own_far h hlt
theorem Parts.far {base b i : Nat} {w : World} {u : Value} {l : List FItem} (h : Parts base w l) (hlt : b < base) : Parts base (w.setCell ⟨b, i, none⟩ u) l := fun x hx => ⟨own_far (h x hx).1 hlt, own_far (h x hx).2 hlt⟩
theorem don_succ (l : List Int) (k : Nat) : (List.range (k + 1)).map (fun i => l.getD (12 + i) 0) = (List.range k).map (fun i => l.getD (12 + i) 0) ++ [l.getD (12 + k) 0] := by rw [List.range_succ, List.map_append]; rfl
theorem readF_small (l : List Int) (p : Nat) : (readF l p).1.area.length ≤ 25 ∧ (readF l p).1.secs.length ≤ 13 := by
  unfold readF
  split
  · exact ⟨by simp, by simp⟩
  · split
    · refine ⟨by simp, ?_⟩
      show (secsQ _ _ _).length ≤ 13
      rw [secsQ_len]
      unfold cntQ
      omega
    · refine ⟨?_, by simp⟩
      show (ptsQ _ _ _).length ≤ 25
      rw [ptsQ_len]
      unfold cntQ
      omega
theorem featsQ_small (l : List Int) (a : Nat) : ∀ k, ∀ f ∈ (featsQ l a k).1, f.area.length ≤ 25 ∧ f.secs.length ≤ 13
  | 0 => fun f hf => by simp [featsQ] at hf
  | k + 1 => fun f hf => by
    have e : (featsQ l a (k + 1)).1 = (featsQ l a k).1 ++ [(readF l (featsQ l a k).2).1] := rfl
    rw [e, List.mem_append] at hf
    rcases hf with hf | hf
    · exact featsQ_small l a k f hf
    · rw [List.mem_singleton.1 hf]
      exact readF_small l _
theorem ints_noneF (w : World) : IntsAt w (.slice none 0 0) [] := ⟨⟨none, 0, rfl, by simp, fun i hi => absurd hi (Nat.not_lt_zero i)⟩, fun a n c e => by cases e; exact Nat.le_refl _⟩
theorem feats_noneF (w : World) : FeatsAt w (.slice none 0 0) [] := ⟨none, 0, rfl, ⟨by simp, by simp⟩, fun i hi => absurd hi (Nat.not_lt_zero i)⟩
theorem feats_far {base : Nat} {w : World} {x3 : Option Addr} {c3 : Nat} {its : List FItem} {F : List Feat} (hF : its.map Prod.fst = F) (ho : w.ownsRow base 32 9 (.slice x3 F.length c3) F.length (its.flatMap featCells)) (hp : Parts base w its) (hl : F.length ≤ 301) (hs : ∀ f ∈ F, f.area.length ≤ 25 ∧ f.secs.length ≤ 13) : FeatsAt w (.slice x3 F.length c3) F := by
  have hil : its.length = F.length := by rw [← hF, List.length_map]
  have h := FeatsAt.of_own (v := .slice x3 F.length c3) (l := its) (by unfold OwnR; rw [hil]; exact ho) hp (by omega) (fun y hy => by
    have hm := hs y.1 (by rw [← hF]; exact List.mem_map_of_mem hy)
    exact ⟨by omega, by omega⟩)
  rw [hF] at h
  exact h
def FromQ (l : List Int) (w : World) (e : Ending) (w' : World) : Prop := ∃ (u : Sht) (k : Int) (vd vf : Value), e = .returned (.tuple #[shtV u vd vf, .int .i64 k]) ∧ (match fromL l with | some s => (s, (0 : Int)) | none => (noSht, 7)) = (u, k) ∧ IntsAt w' vd u.don ∧ FeatsAt w' vf u.feats ∧ Below w.heap.size w w'
set_option maxHeartbeats 32000000 in
set_option maxRecDepth 20000 in
theorem q14From_any (l : List Int) (ad : Option Addr) (c : Nat) (w : World) (h : IntsAt w (.slice ad l.length c) l) (hl : l.length ≤ 2000) :
    Calls Tryz.prog 38 #[.slice ad l.length c] w (FromQ l w) := by
  have HL := Lib.hid h
  clear h
  obtain ⟨v0, h0⟩ : ∃ v, l.getD 0 0 = v := ⟨_, rfl⟩
  have V0 := Lib.hid h0
  clear h0
  obtain ⟨v1, h1⟩ : ∃ v, l.getD 1 0 = v := ⟨_, rfl⟩
  have V1 := Lib.hid h1
  clear h1
  obtain ⟨v2, h2⟩ : ∃ v, l.getD 2 0 = v := ⟨_, rfl⟩
  have V2 := Lib.hid h2
  clear h2
  obtain ⟨v3, h3⟩ : ∃ v, l.getD 3 0 = v := ⟨_, rfl⟩
  have V3 := Lib.hid h3
  clear h3
  obtain ⟨v4, h4⟩ : ∃ v, l.getD 4 0 = v := ⟨_, rfl⟩
  have V4 := Lib.hid h4
  clear h4
  obtain ⟨v5, h5⟩ : ∃ v, l.getD 5 0 = v := ⟨_, rfl⟩
  have V5 := Lib.hid h5
  clear h5
  obtain ⟨v6, h6⟩ : ∃ v, l.getD 6 0 = v := ⟨_, rfl⟩
  have V6 := Lib.hid h6
  clear h6
  obtain ⟨v7, h7⟩ : ∃ v, l.getD 7 0 = v := ⟨_, rfl⟩
  have V7 := Lib.hid h7
  clear h7
  obtain ⟨v8, h8⟩ : ∃ v, l.getD 8 0 = v := ⟨_, rfl⟩
  have V8 := Lib.hid h8
  clear h8
  obtain ⟨v9, h9⟩ : ∃ v, l.getD 9 0 = v := ⟨_, rfl⟩
  have V9 := Lib.hid h9
  clear h9
  obtain ⟨v10, h10⟩ : ∃ v, l.getD 10 0 = v := ⟨_, rfl⟩
  have V10 := Lib.hid h10
  clear h10
  obtain ⟨n, hn⟩ : ∃ v, l.getD 11 0 = v := ⟨_, rfl⟩
  have V11 := Lib.hid hn
  clear hn
  go_enter Tryz.func38, Tryz.ntmps38
  go_wp2_with fail
  refine calls_named fun W0 hW => ?_
  obtain ⟨q2, hB0⟩ := box1 hW
  have hs0 : W0.heap.size = w.heap.size + 1 := by rw [hW]; simp
  clear hW
  (with_reducible refine (q14At_any l ad c _ (3) _ (intsL HL.out hB0) (by omega) V3.out).mono ?_)
  rintro e1 z1 ⟨rfl, rfl⟩
  go_wp2_with fail
  (with_reducible refine (q14At_any l ad c _ (4) _ (intsL HL.out hB0) (by omega) V4.out).mono ?_)
  rintro e1 z1 ⟨rfl, rfl⟩
  go_wp2_with fail
  (with_reducible refine (q14At_any l ad c _ (5) _ (intsL HL.out hB0) (by omega) V5.out).mono ?_)
  rintro e1 z1 ⟨rfl, rfl⟩
  go_wp2_with fail
  (with_reducible refine (q14At_any l ad c _ (6) _ (intsL HL.out hB0) (by omega) V6.out).mono ?_)
  rintro e1 z1 ⟨rfl, rfl⟩
  go_wp2_with fail
  (with_reducible refine (q14At_any l ad c _ (7) _ (intsL HL.out hB0) (by omega) V7.out).mono ?_)
  rintro e1 z1 ⟨rfl, rfl⟩
  go_wp2_with fail
  (with_reducible refine (q14At_any l ad c _ (8) _ (intsL HL.out hB0) (by omega) V8.out).mono ?_)
  rintro e1 z1 ⟨rfl, rfl⟩
  go_wp2_with fail
  (with_reducible refine (q14At_any l ad c _ (9) _ (intsL HL.out hB0) (by omega) V9.out).mono ?_)
  rintro e1 z1 ⟨rfl, rfl⟩
  go_wp2_with fail
  refine wp_named fun W hW => ?_
  obtain ⟨q4, hb4⟩ := box1 hW
  have hsW : W.heap.size = w.heap.size + 2 := by rw [hW]; simp; omega
  rw [hs0] at q4
  have hB := below_step hB0 hb4
  have p2 := block_later hb4 q2
  clear hW hb4 hB0 q2 hs0
  have Q2 := Lib.hid p2
  have Q4 := Lib.hid q4
  clear p2 q4
  go_cut [5] from 28 to 37 (fun s5 wx => s5 = .pointer (some ⟨w.heap.size + 2, 0, none⟩) ∧ Below w.heap.size w wx ∧ w.heap.size + 3 ≤ wx.heap.size ∧ wx.heap[w.heap.size]? = some (.cells #[.int .i64 0, .int .i64 0, .int .i64 0, .int .i64 0, .int .i64 0, .int .i64 0, .int .i64 0, .int .i64 0, .int .i64 0, .int .i64 0, .int .i64 0, .slice none 0 0, .slice none 0 0] 54) ∧ wx.heap[w.heap.size + 2]? = some (.cells #[.int .i64 v0, .int .i64 v1, .int .i64 v2, .int .i64 v3, .int .i64 v4, .int .i64 v5, .int .i64 v6, .int .i64 v7, .int .i64 v8, .int .i64 v9, .int .i64 v10, .slice none 0 0, .slice none 0 0] 54))
  case first =>
    have hdr : Below W.heap.size W W.drew := (Below.refl _ _).drew
    have hW2 := below_step hB hdr
    refine wp_region_planS (Below W.heap.size W) (.take 0 (.take 1 (.take 2 (.take 3 (.take 3 (.two 0 (.two 0 (.two 0 (.two 0 (.take 0 (.only 0 (.only 0 .done))) 2 (.only 0 (.take 0 (.only 0 .done)))) 3 (.only 0 (.only 0 (.take 0 (.only 0 .done))))) 4 (.only 0 (.only 0 (.only 0 (.take 0 (.only 0 .done)))))) 5 (.only 0 (.only 0 (.only 0 (.only 0 (.take 0 (.only 0 .done)))))))))))) (by kernel_rfl) (by kernel_rfl) hdr (fun hP => ?_)
    have hsd : W.drew.heap.size = w.heap.size + 2 := by rw [← hsW]; rfl
    generalize hdw : W.drew = y0 at hP hsd ⊢
    clear hdw hdr hW2
    (refine wsPlan_take rfl (fun K hK => ?_); replace hK := Lib.hid hK; go_simp; first | (refine hK.out _ ?_; clear hK K) | (apply Exists.intro; refine ⟨fun w' hw => ?_, hK.out _ ?_⟩; (first | with_reducible exact rfl | (have z4 := cell_block ((hw.block (w.heap.size + 1) (by omega)).trans Q4.out); go_simp; exact rfl)); clear hK K))
    (refine wsPlan_take rfl (fun K hK => ?_); replace hK := Lib.hid hK; go_simp; first | (refine hK.out _ ?_; clear hK K) | (apply Exists.intro; refine ⟨fun w' hw => ?_, hK.out _ ?_⟩; (first | with_reducible exact rfl | (have z4 := cell_block ((hw.block (w.heap.size + 1) (by omega)).trans Q4.out); go_simp; exact rfl)); clear hK K))
    (refine wsPlan_take rfl (fun K hK => ?_); replace hK := Lib.hid hK; go_simp; first | (refine hK.out _ ?_; clear hK K) | (apply Exists.intro; refine ⟨fun w' hw => ?_, hK.out _ ?_⟩; (first | with_reducible exact rfl | (have z4 := cell_block ((hw.block (w.heap.size + 1) (by omega)).trans Q4.out); go_simp; exact rfl)); clear hK K))
    (refine wsPlan_take rfl (fun K hK => ?_); replace hK := Lib.hid hK; go_simp; first | (refine hK.out _ ?_; clear hK K) | (apply Exists.intro; refine ⟨fun w' hw => ?_, hK.out _ ?_⟩; (first | with_reducible exact rfl | (have z4 := cell_block ((hw.block (w.heap.size + 1) (by omega)).trans Q4.out); go_simp; exact rfl)); clear hK K))
    (refine wsPlan_take rfl (fun K hK => ?_); replace hK := Lib.hid hK; go_simp; first | (refine hK.out _ ?_; clear hK K) | (apply Exists.intro; refine ⟨fun w' hw => ?_, hK.out _ ?_⟩; (first | with_reducible exact rfl | (have z4 := cell_block ((hw.block (w.heap.size + 1) (by omega)).trans Q4.out); go_simp; exact rfl)); clear hK K))
    refine wsPlan_two ?_ ?_
    · skip
      (refine wsPlan_only rfl (fun K hK => ?_); replace hK := Lib.hid hK; go_simp; go_at_call 122; (with_reducible refine (q14At_any l ad c _ 0 _ (intsL HL.out (below_step hB hP)) (by omega) V0.out).mono ?_); rintro z v1w ⟨rfl, hv1⟩; subst v1w; refine hK.out _ _ hP (fun hP => ?_); clear hK K)
      refine wsPlan_two ?_ ?_
      · skip
        (refine wsPlan_only rfl (fun K hK => ?_); replace hK := Lib.hid hK; go_simp; go_at_call 122; (with_reducible refine (q14At_any l ad c _ 1 _ (intsL HL.out (below_step hB hP)) (by omega) V1.out).mono ?_); rintro z v2w ⟨rfl, hv2⟩; subst v2w; refine hK.out _ _ hP (fun hP => ?_); clear hK K)
        refine wsPlan_two ?_ ?_
        · skip
          (refine wsPlan_only rfl (fun K hK => ?_); replace hK := Lib.hid hK; go_simp; go_at_call 122; (with_reducible refine (q14At_any l ad c _ 2 _ (intsL HL.out (below_step hB hP)) (by omega) V2.out).mono ?_); rintro z v3w ⟨rfl, hv3⟩; subst v3w; refine hK.out _ _ hP (fun hP => ?_); clear hK K)
          refine wsPlan_two ?_ ?_
          · skip
            (refine wsPlan_only rfl (fun K hK => ?_); replace hK := Lib.hid hK; go_simp; go_at_call 122; (with_reducible refine (q14At_any l ad c _ 10 _ (intsL HL.out (below_step hB hP)) (by omega) V10.out).mono ?_); rintro z v4w ⟨rfl, hv4⟩; subst v4w; refine hK.out _ _ hP (fun hP => ?_); clear hK K)
            (refine wsPlan_take rfl (fun K hK => ?_); replace hK := Lib.hid hK; go_simp; first | (refine hK.out _ ?_; clear hK K) | (apply Exists.intro; refine ⟨fun w' hw => ?_, hK.out _ ?_⟩; (first | with_reducible exact rfl | (have z4 := cell_block ((hw.block (w.heap.size + 1) (by omega)).trans Q4.out); go_simp; exact rfl)); clear hK K))
            (refine wsPlan_only rfl (fun K hK => ?_); replace hK := Lib.hid hK; go_simp; refine hK.out _ _ (hP.alloc hP.size _) (fun hP => ?_); clear hK K)
            generalize hw5 : World.alloc y0 (Obj.cells #[.int .i64 0, .int .i64 0, .int .i64 0, .int .i64 0, .int .i64 0, .int .i64 0, .int .i64 0, .int .i64 0, .int .i64 0, .int .i64 0, .int .i64 0, .slice none 0 0, .slice none 0 0] 54) = y5 at hP ⊢
            obtain ⟨q5_5, hb5⟩ := box1 hw5.symm
            have hz5 : w.heap.size + 3 ≤ y5.heap.size := by have := lt_block q5_5; omega
            clear hw5
            rw [hsd] at q5_5
            have f5 := free_block q5_5
            have k5 := cell_block q5_5
            (refine wsPlan_only rfl (fun K hK => ?_); replace hK := Lib.hid hK; go_simp; refine hK.out _ _ (by with_reducible exact (((((((((((((hP.setCell (p := ⟨w.heap.size + 2, 0, none⟩) (by dsimp only; omega) (.int .i64 v0)).setCell (p := ⟨w.heap.size + 2, 1, none⟩) (by dsimp only; omega) (.int .i64 v1)).setCell (p := ⟨w.heap.size + 2, 2, none⟩) (by dsimp only; omega) (.int .i64 v2)).setCell (p := ⟨w.heap.size + 2, 3, none⟩) (by dsimp only; omega) (.int .i64 v3)).setCell (p := ⟨w.heap.size + 2, 4, none⟩) (by dsimp only; omega) (.int .i64 v4)).setCell (p := ⟨w.heap.size + 2, 5, none⟩) (by dsimp only; omega) (.int .i64 v5)).setCell (p := ⟨w.heap.size + 2, 6, none⟩) (by dsimp only; omega) (.int .i64 v6)).setCell (p := ⟨w.heap.size + 2, 7, none⟩) (by dsimp only; omega) (.int .i64 v7)).setCell (p := ⟨w.heap.size + 2, 8, none⟩) (by dsimp only; omega) (.int .i64 v8)).setCell (p := ⟨w.heap.size + 2, 9, none⟩) (by dsimp only; omega) (.int .i64 v9)).setCell (p := ⟨w.heap.size + 2, 10, none⟩) (by dsimp only; omega) (.int .i64 v10)).setCell (p := ⟨w.heap.size + 2, 11, none⟩) (by dsimp only; omega) (.slice none 0 0)).setCell (p := ⟨w.heap.size + 2, 12, none⟩) (by dsimp only; omega) (.slice none 0 0))) (fun hP => ?_); clear hK K f5 k5)
            have q5_6 := (block_set (i := 12) (block_set (i := 11) (block_set (i := 10) (block_set (i := 9) (block_set (i := 8) (block_set (i := 7) (block_set (i := 6) (block_set (i := 5) (block_set (i := 4) (block_set (i := 3) (block_set (i := 2) (block_set (i := 1) (block_set (i := 0) q5_5 (.int .i64 v0)) (.int .i64 v1)) (.int .i64 v2)) (.int .i64 v3)) (.int .i64 v4)) (.int .i64 v5)) (.int .i64 v6)) (.int .i64 v7)) (.int .i64 v8)) (.int .i64 v9)) (.int .i64 v10)) (.slice none 0 0)) (.slice none 0 0))
            simp only [List.setIfInBounds_toArray, List.set_cons_zero, List.set_cons_succ] at q5_6
            have hz6 : w.heap.size + 3 ≤ (World.setCell (World.setCell (World.setCell (World.setCell (World.setCell (World.setCell (World.setCell (World.setCell (World.setCell (World.setCell (World.setCell (World.setCell (World.setCell y5 ⟨w.heap.size + 2, 0, none⟩ (.int .i64 v0)) ⟨w.heap.size + 2, 1, none⟩ (.int .i64 v1)) ⟨w.heap.size + 2, 2, none⟩ (.int .i64 v2)) ⟨w.heap.size + 2, 3, none⟩ (.int .i64 v3)) ⟨w.heap.size + 2, 4, none⟩ (.int .i64 v4)) ⟨w.heap.size + 2, 5, none⟩ (.int .i64 v5)) ⟨w.heap.size + 2, 6, none⟩ (.int .i64 v6)) ⟨w.heap.size + 2, 7, none⟩ (.int .i64 v7)) ⟨w.heap.size + 2, 8, none⟩ (.int .i64 v8)) ⟨w.heap.size + 2, 9, none⟩ (.int .i64 v9)) ⟨w.heap.size + 2, 10, none⟩ (.int .i64 v10)) ⟨w.heap.size + 2, 11, none⟩ (.slice none 0 0)) ⟨w.heap.size + 2, 12, none⟩ (.slice none 0 0)).heap.size := by simp only [World.size_setCell]; exact hz5
            generalize hw6 : (World.setCell (World.setCell (World.setCell (World.setCell (World.setCell (World.setCell (World.setCell (World.setCell (World.setCell (World.setCell (World.setCell (World.setCell (World.setCell y5 ⟨w.heap.size + 2, 0, none⟩ (.int .i64 v0)) ⟨w.heap.size + 2, 1, none⟩ (.int .i64 v1)) ⟨w.heap.size + 2, 2, none⟩ (.int .i64 v2)) ⟨w.heap.size + 2, 3, none⟩ (.int .i64 v3)) ⟨w.heap.size + 2, 4, none⟩ (.int .i64 v4)) ⟨w.heap.size + 2, 5, none⟩ (.int .i64 v5)) ⟨w.heap.size + 2, 6, none⟩ (.int .i64 v6)) ⟨w.heap.size + 2, 7, none⟩ (.int .i64 v7)) ⟨w.heap.size + 2, 8, none⟩ (.int .i64 v8)) ⟨w.heap.size + 2, 9, none⟩ (.int .i64 v9)) ⟨w.heap.size + 2, 10, none⟩ (.int .i64 v10)) ⟨w.heap.size + 2, 11, none⟩ (.slice none 0 0)) ⟨w.heap.size + 2, 12, none⟩ (.slice none 0 0)) = y6 at hP q5_6 hz6 ⊢
            clear hw6
            refine wsPlan_done ?_
            go_wp2_with fail
            go_meet
            exact ⟨rfl, below_step hB hP, hz6, block_later hP Q2.out, q5_6⟩
          · skip
            (refine wsPlan_only rfl (fun K hK => ?_); replace hK := Lib.hid hK; go_simp; refine hK.out _ _ (hP.alloc hP.size _) (fun hP => ?_); clear hK K)
            generalize hw7 : World.alloc y0 (Obj.cells #[.int .i64 0, .int .i64 0, .int .i64 0, .int .i64 0, .int .i64 0, .int .i64 0, .int .i64 0, .int .i64 0, .int .i64 0, .int .i64 0, .int .i64 0, .slice none 0 0, .slice none 0 0] 54) = y7 at hP ⊢
            obtain ⟨q5_7, hb7⟩ := box1 hw7.symm
            have hz7 : w.heap.size + 3 ≤ y7.heap.size := by have := lt_block q5_7; omega
            clear hw7
            rw [hsd] at q5_7
            (refine wsPlan_only rfl (fun K hK => ?_); replace hK := Lib.hid hK; go_simp; go_at_call 122; (with_reducible refine (q14At_any l ad c _ 10 _ (intsL HL.out (below_step hB hP)) (by omega) V10.out).mono ?_); rintro z v8w ⟨rfl, hv8⟩; subst v8w; refine hK.out _ _ hP (fun hP => ?_); clear hK K)
            (refine wsPlan_take rfl (fun K hK => ?_); replace hK := Lib.hid hK; go_simp; first | (refine hK.out _ ?_; clear hK K) | (apply Exists.intro; refine ⟨fun w' hw => ?_, hK.out _ ?_⟩; (first | with_reducible exact rfl | (have z4 := cell_block ((hw.block (w.heap.size + 1) (by omega)).trans Q4.out); go_simp; exact rfl)); clear hK K))
            have f5 := free_block q5_7
            have k5 := cell_block q5_7
            (refine wsPlan_only rfl (fun K hK => ?_); replace hK := Lib.hid hK; go_simp; refine hK.out _ _ (by with_reducible exact (((((((((((((hP.setCell (p := ⟨w.heap.size + 2, 0, none⟩) (by dsimp only; omega) (.int .i64 v0)).setCell (p := ⟨w.heap.size + 2, 1, none⟩) (by dsimp only; omega) (.int .i64 v1)).setCell (p := ⟨w.heap.size + 2, 2, none⟩) (by dsimp only; omega) (.int .i64 v2)).setCell (p := ⟨w.heap.size + 2, 3, none⟩) (by dsimp only; omega) (.int .i64 v3)).setCell (p := ⟨w.heap.size + 2, 4, none⟩) (by dsimp only; omega) (.int .i64 v4)).setCell (p := ⟨w.heap.size + 2, 5, none⟩) (by dsimp only; omega) (.int .i64 v5)).setCell (p := ⟨w.heap.size + 2, 6, none⟩) (by dsimp only; omega) (.int .i64 v6)).setCell (p := ⟨w.heap.size + 2, 7, none⟩) (by dsimp only; omega) (.int .i64 v7)).setCell (p := ⟨w.heap.size + 2, 8, none⟩) (by dsimp only; omega) (.int .i64 v8)).setCell (p := ⟨w.heap.size + 2, 9, none⟩) (by dsimp only; omega) (.int .i64 v9)).setCell (p := ⟨w.heap.size + 2, 10, none⟩) (by dsimp only; omega) (.int .i64 v10)).setCell (p := ⟨w.heap.size + 2, 11, none⟩) (by dsimp only; omega) (.slice none 0 0)).setCell (p := ⟨w.heap.size + 2, 12, none⟩) (by dsimp only; omega) (.slice none 0 0))) (fun hP => ?_); clear hK K f5 k5)
            have q5_9 := (block_set (i := 12) (block_set (i := 11) (block_set (i := 10) (block_set (i := 9) (block_set (i := 8) (block_set (i := 7) (block_set (i := 6) (block_set (i := 5) (block_set (i := 4) (block_set (i := 3) (block_set (i := 2) (block_set (i := 1) (block_set (i := 0) q5_7 (.int .i64 v0)) (.int .i64 v1)) (.int .i64 v2)) (.int .i64 v3)) (.int .i64 v4)) (.int .i64 v5)) (.int .i64 v6)) (.int .i64 v7)) (.int .i64 v8)) (.int .i64 v9)) (.int .i64 v10)) (.slice none 0 0)) (.slice none 0 0))
            simp only [List.setIfInBounds_toArray, List.set_cons_zero, List.set_cons_succ] at q5_9
            have hz9 : w.heap.size + 3 ≤ (World.setCell (World.setCell (World.setCell (World.setCell (World.setCell (World.setCell (World.setCell (World.setCell (World.setCell (World.setCell (World.setCell (World.setCell (World.setCell y7 ⟨w.heap.size + 2, 0, none⟩ (.int .i64 v0)) ⟨w.heap.size + 2, 1, none⟩ (.int .i64 v1)) ⟨w.heap.size + 2, 2, none⟩ (.int .i64 v2)) ⟨w.heap.size + 2, 3, none⟩ (.int .i64 v3)) ⟨w.heap.size + 2, 4, none⟩ (.int .i64 v4)) ⟨w.heap.size + 2, 5, none⟩ (.int .i64 v5)) ⟨w.heap.size + 2, 6, none⟩ (.int .i64 v6)) ⟨w.heap.size + 2, 7, none⟩ (.int .i64 v7)) ⟨w.heap.size + 2, 8, none⟩ (.int .i64 v8)) ⟨w.heap.size + 2, 9, none⟩ (.int .i64 v9)) ⟨w.heap.size + 2, 10, none⟩ (.int .i64 v10)) ⟨w.heap.size + 2, 11, none⟩ (.slice none 0 0)) ⟨w.heap.size + 2, 12, none⟩ (.slice none 0 0)).heap.size := by simp only [World.size_setCell]; exact hz7
            generalize hw9 : (World.setCell (World.setCell (World.setCell (World.setCell (World.setCell (World.setCell (World.setCell (World.setCell (World.setCell (World.setCell (World.setCell (World.setCell (World.setCell y7 ⟨w.heap.size + 2, 0, none⟩ (.int .i64 v0)) ⟨w.heap.size + 2, 1, none⟩ (.int .i64 v1)) ⟨w.heap.size + 2, 2, none⟩ (.int .i64 v2)) ⟨w.heap.size + 2, 3, none⟩ (.int .i64 v3)) ⟨w.heap.size + 2, 4, none⟩ (.int .i64 v4)) ⟨w.heap.size + 2, 5, none⟩ (.int .i64 v5)) ⟨w.heap.size + 2, 6, none⟩ (.int .i64 v6)) ⟨w.heap.size + 2, 7, none⟩ (.int .i64 v7)) ⟨w.heap.size + 2, 8, none⟩ (.int .i64 v8)) ⟨w.heap.size + 2, 9, none⟩ (.int .i64 v9)) ⟨w.heap.size + 2, 10, none⟩ (.int .i64 v10)) ⟨w.heap.size + 2, 11, none⟩ (.slice none 0 0)) ⟨w.heap.size + 2, 12, none⟩ (.slice none 0 0)) = y9 at hP q5_9 hz9 ⊢
            clear hw9
            refine wsPlan_done ?_
            go_wp2_with fail
            go_meet
            exact ⟨rfl, below_step hB hP, hz9, block_later hP Q2.out, q5_9⟩
        · skip
          (refine wsPlan_only rfl (fun K hK => ?_); replace hK := Lib.hid hK; go_simp; refine hK.out _ _ (hP.alloc hP.size _) (fun hP => ?_); clear hK K)
          generalize hw10 : World.alloc y0 (Obj.cells #[.int .i64 0, .int .i64 0, .int .i64 0, .int .i64 0, .int .i64 0, .int .i64 0, .int .i64 0, .int .i64 0, .int .i64 0, .int .i64 0, .int .i64 0, .slice none 0 0, .slice none 0 0] 54) = y10 at hP ⊢
          obtain ⟨q5_10, hb10⟩ := box1 hw10.symm
          have hz10 : w.heap.size + 3 ≤ y10.heap.size := by have := lt_block q5_10; omega
          clear hw10
          rw [hsd] at q5_10
          (refine wsPlan_only rfl (fun K hK => ?_); replace hK := Lib.hid hK; go_simp; go_at_call 122; (with_reducible refine (q14At_any l ad c _ 2 _ (intsL HL.out (below_step hB hP)) (by omega) V2.out).mono ?_); rintro z v11w ⟨rfl, hv11⟩; subst v11w; refine hK.out _ _ hP (fun hP => ?_); clear hK K)
          (refine wsPlan_only rfl (fun K hK => ?_); replace hK := Lib.hid hK; go_simp; go_at_call 122; (with_reducible refine (q14At_any l ad c _ 10 _ (intsL HL.out (below_step hB hP)) (by omega) V10.out).mono ?_); rintro z v12w ⟨rfl, hv12⟩; subst v12w; refine hK.out _ _ hP (fun hP => ?_); clear hK K)
          (refine wsPlan_take rfl (fun K hK => ?_); replace hK := Lib.hid hK; go_simp; first | (refine hK.out _ ?_; clear hK K) | (apply Exists.intro; refine ⟨fun w' hw => ?_, hK.out _ ?_⟩; (first | with_reducible exact rfl | (have z4 := cell_block ((hw.block (w.heap.size + 1) (by omega)).trans Q4.out); go_simp; exact rfl)); clear hK K))
          have f5 := free_block q5_10
          have k5 := cell_block q5_10
          (refine wsPlan_only rfl (fun K hK => ?_); replace hK := Lib.hid hK; go_simp; refine hK.out _ _ (by with_reducible exact (((((((((((((hP.setCell (p := ⟨w.heap.size + 2, 0, none⟩) (by dsimp only; omega) (.int .i64 v0)).setCell (p := ⟨w.heap.size + 2, 1, none⟩) (by dsimp only; omega) (.int .i64 v1)).setCell (p := ⟨w.heap.size + 2, 2, none⟩) (by dsimp only; omega) (.int .i64 v2)).setCell (p := ⟨w.heap.size + 2, 3, none⟩) (by dsimp only; omega) (.int .i64 v3)).setCell (p := ⟨w.heap.size + 2, 4, none⟩) (by dsimp only; omega) (.int .i64 v4)).setCell (p := ⟨w.heap.size + 2, 5, none⟩) (by dsimp only; omega) (.int .i64 v5)).setCell (p := ⟨w.heap.size + 2, 6, none⟩) (by dsimp only; omega) (.int .i64 v6)).setCell (p := ⟨w.heap.size + 2, 7, none⟩) (by dsimp only; omega) (.int .i64 v7)).setCell (p := ⟨w.heap.size + 2, 8, none⟩) (by dsimp only; omega) (.int .i64 v8)).setCell (p := ⟨w.heap.size + 2, 9, none⟩) (by dsimp only; omega) (.int .i64 v9)).setCell (p := ⟨w.heap.size + 2, 10, none⟩) (by dsimp only; omega) (.int .i64 v10)).setCell (p := ⟨w.heap.size + 2, 11, none⟩) (by dsimp only; omega) (.slice none 0 0)).setCell (p := ⟨w.heap.size + 2, 12, none⟩) (by dsimp only; omega) (.slice none 0 0))) (fun hP => ?_); clear hK K f5 k5)
          have q5_13 := (block_set (i := 12) (block_set (i := 11) (block_set (i := 10) (block_set (i := 9) (block_set (i := 8) (block_set (i := 7) (block_set (i := 6) (block_set (i := 5) (block_set (i := 4) (block_set (i := 3) (block_set (i := 2) (block_set (i := 1) (block_set (i := 0) q5_10 (.int .i64 v0)) (.int .i64 v1)) (.int .i64 v2)) (.int .i64 v3)) (.int .i64 v4)) (.int .i64 v5)) (.int .i64 v6)) (.int .i64 v7)) (.int .i64 v8)) (.int .i64 v9)) (.int .i64 v10)) (.slice none 0 0)) (.slice none 0 0))
          simp only [List.setIfInBounds_toArray, List.set_cons_zero, List.set_cons_succ] at q5_13
          have hz13 : w.heap.size + 3 ≤ (World.setCell (World.setCell (World.setCell (World.setCell (World.setCell (World.setCell (World.setCell (World.setCell (World.setCell (World.setCell (World.setCell (World.setCell (World.setCell y10 ⟨w.heap.size + 2, 0, none⟩ (.int .i64 v0)) ⟨w.heap.size + 2, 1, none⟩ (.int .i64 v1)) ⟨w.heap.size + 2, 2, none⟩ (.int .i64 v2)) ⟨w.heap.size + 2, 3, none⟩ (.int .i64 v3)) ⟨w.heap.size + 2, 4, none⟩ (.int .i64 v4)) ⟨w.heap.size + 2, 5, none⟩ (.int .i64 v5)) ⟨w.heap.size + 2, 6, none⟩ (.int .i64 v6)) ⟨w.heap.size + 2, 7, none⟩ (.int .i64 v7)) ⟨w.heap.size + 2, 8, none⟩ (.int .i64 v8)) ⟨w.heap.size + 2, 9, none⟩ (.int .i64 v9)) ⟨w.heap.size + 2, 10, none⟩ (.int .i64 v10)) ⟨w.heap.size + 2, 11, none⟩ (.slice none 0 0)) ⟨w.heap.size + 2, 12, none⟩ (.slice none 0 0)).heap.size := by simp only [World.size_setCell]; exact hz10
          generalize hw13 : (World.setCell (World.setCell (World.setCell (World.setCell (World.setCell (World.setCell (World.setCell (World.setCell (World.setCell (World.setCell (World.setCell (World.setCell (World.setCell y10 ⟨w.heap.size + 2, 0, none⟩ (.int .i64 v0)) ⟨w.heap.size + 2, 1, none⟩ (.int .i64 v1)) ⟨w.heap.size + 2, 2, none⟩ (.int .i64 v2)) ⟨w.heap.size + 2, 3, none⟩ (.int .i64 v3)) ⟨w.heap.size + 2, 4, none⟩ (.int .i64 v4)) ⟨w.heap.size + 2, 5, none⟩ (.int .i64 v5)) ⟨w.heap.size + 2, 6, none⟩ (.int .i64 v6)) ⟨w.heap.size + 2, 7, none⟩ (.int .i64 v7)) ⟨w.heap.size + 2, 8, none⟩ (.int .i64 v8)) ⟨w.heap.size + 2, 9, none⟩ (.int .i64 v9)) ⟨w.heap.size + 2, 10, none⟩ (.int .i64 v10)) ⟨w.heap.size + 2, 11, none⟩ (.slice none 0 0)) ⟨w.heap.size + 2, 12, none⟩ (.slice none 0 0)) = y13 at hP q5_13 hz13 ⊢
          clear hw13
          refine wsPlan_done ?_
          go_wp2_with fail
          go_meet
          exact ⟨rfl, below_step hB hP, hz13, block_later hP Q2.out, q5_13⟩
      · skip
        (refine wsPlan_only rfl (fun K hK => ?_); replace hK := Lib.hid hK; go_simp; refine hK.out _ _ (hP.alloc hP.size _) (fun hP => ?_); clear hK K)
        generalize hw14 : World.alloc y0 (Obj.cells #[.int .i64 0, .int .i64 0, .int .i64 0, .int .i64 0, .int .i64 0, .int .i64 0, .int .i64 0, .int .i64 0, .int .i64 0, .int .i64 0, .int .i64 0, .slice none 0 0, .slice none 0 0] 54) = y14 at hP ⊢
        obtain ⟨q5_14, hb14⟩ := box1 hw14.symm
        have hz14 : w.heap.size + 3 ≤ y14.heap.size := by have := lt_block q5_14; omega
        clear hw14
        rw [hsd] at q5_14
        (refine wsPlan_only rfl (fun K hK => ?_); replace hK := Lib.hid hK; go_simp; go_at_call 122; (with_reducible refine (q14At_any l ad c _ 1 _ (intsL HL.out (below_step hB hP)) (by omega) V1.out).mono ?_); rintro z v15w ⟨rfl, hv15⟩; subst v15w; refine hK.out _ _ hP (fun hP => ?_); clear hK K)
        (refine wsPlan_only rfl (fun K hK => ?_); replace hK := Lib.hid hK; go_simp; go_at_call 122; (with_reducible refine (q14At_any l ad c _ 2 _ (intsL HL.out (below_step hB hP)) (by omega) V2.out).mono ?_); rintro z v16w ⟨rfl, hv16⟩; subst v16w; refine hK.out _ _ hP (fun hP => ?_); clear hK K)
        (refine wsPlan_only rfl (fun K hK => ?_); replace hK := Lib.hid hK; go_simp; go_at_call 122; (with_reducible refine (q14At_any l ad c _ 10 _ (intsL HL.out (below_step hB hP)) (by omega) V10.out).mono ?_); rintro z v17w ⟨rfl, hv17⟩; subst v17w; refine hK.out _ _ hP (fun hP => ?_); clear hK K)
        (refine wsPlan_take rfl (fun K hK => ?_); replace hK := Lib.hid hK; go_simp; first | (refine hK.out _ ?_; clear hK K) | (apply Exists.intro; refine ⟨fun w' hw => ?_, hK.out _ ?_⟩; (first | with_reducible exact rfl | (have z4 := cell_block ((hw.block (w.heap.size + 1) (by omega)).trans Q4.out); go_simp; exact rfl)); clear hK K))
        have f5 := free_block q5_14
        have k5 := cell_block q5_14
        (refine wsPlan_only rfl (fun K hK => ?_); replace hK := Lib.hid hK; go_simp; refine hK.out _ _ (by with_reducible exact (((((((((((((hP.setCell (p := ⟨w.heap.size + 2, 0, none⟩) (by dsimp only; omega) (.int .i64 v0)).setCell (p := ⟨w.heap.size + 2, 1, none⟩) (by dsimp only; omega) (.int .i64 v1)).setCell (p := ⟨w.heap.size + 2, 2, none⟩) (by dsimp only; omega) (.int .i64 v2)).setCell (p := ⟨w.heap.size + 2, 3, none⟩) (by dsimp only; omega) (.int .i64 v3)).setCell (p := ⟨w.heap.size + 2, 4, none⟩) (by dsimp only; omega) (.int .i64 v4)).setCell (p := ⟨w.heap.size + 2, 5, none⟩) (by dsimp only; omega) (.int .i64 v5)).setCell (p := ⟨w.heap.size + 2, 6, none⟩) (by dsimp only; omega) (.int .i64 v6)).setCell (p := ⟨w.heap.size + 2, 7, none⟩) (by dsimp only; omega) (.int .i64 v7)).setCell (p := ⟨w.heap.size + 2, 8, none⟩) (by dsimp only; omega) (.int .i64 v8)).setCell (p := ⟨w.heap.size + 2, 9, none⟩) (by dsimp only; omega) (.int .i64 v9)).setCell (p := ⟨w.heap.size + 2, 10, none⟩) (by dsimp only; omega) (.int .i64 v10)).setCell (p := ⟨w.heap.size + 2, 11, none⟩) (by dsimp only; omega) (.slice none 0 0)).setCell (p := ⟨w.heap.size + 2, 12, none⟩) (by dsimp only; omega) (.slice none 0 0))) (fun hP => ?_); clear hK K f5 k5)
        have q5_18 := (block_set (i := 12) (block_set (i := 11) (block_set (i := 10) (block_set (i := 9) (block_set (i := 8) (block_set (i := 7) (block_set (i := 6) (block_set (i := 5) (block_set (i := 4) (block_set (i := 3) (block_set (i := 2) (block_set (i := 1) (block_set (i := 0) q5_14 (.int .i64 v0)) (.int .i64 v1)) (.int .i64 v2)) (.int .i64 v3)) (.int .i64 v4)) (.int .i64 v5)) (.int .i64 v6)) (.int .i64 v7)) (.int .i64 v8)) (.int .i64 v9)) (.int .i64 v10)) (.slice none 0 0)) (.slice none 0 0))
        simp only [List.setIfInBounds_toArray, List.set_cons_zero, List.set_cons_succ] at q5_18
        have hz18 : w.heap.size + 3 ≤ (World.setCell (World.setCell (World.setCell (World.setCell (World.setCell (World.setCell (World.setCell (World.setCell (World.setCell (World.setCell (World.setCell (World.setCell (World.setCell y14 ⟨w.heap.size + 2, 0, none⟩ (.int .i64 v0)) ⟨w.heap.size + 2, 1, none⟩ (.int .i64 v1)) ⟨w.heap.size + 2, 2, none⟩ (.int .i64 v2)) ⟨w.heap.size + 2, 3, none⟩ (.int .i64 v3)) ⟨w.heap.size + 2, 4, none⟩ (.int .i64 v4)) ⟨w.heap.size + 2, 5, none⟩ (.int .i64 v5)) ⟨w.heap.size + 2, 6, none⟩ (.int .i64 v6)) ⟨w.heap.size + 2, 7, none⟩ (.int .i64 v7)) ⟨w.heap.size + 2, 8, none⟩ (.int .i64 v8)) ⟨w.heap.size + 2, 9, none⟩ (.int .i64 v9)) ⟨w.heap.size + 2, 10, none⟩ (.int .i64 v10)) ⟨w.heap.size + 2, 11, none⟩ (.slice none 0 0)) ⟨w.heap.size + 2, 12, none⟩ (.slice none 0 0)).heap.size := by simp only [World.size_setCell]; exact hz14
        generalize hw18 : (World.setCell (World.setCell (World.setCell (World.setCell (World.setCell (World.setCell (World.setCell (World.setCell (World.setCell (World.setCell (World.setCell (World.setCell (World.setCell y14 ⟨w.heap.size + 2, 0, none⟩ (.int .i64 v0)) ⟨w.heap.size + 2, 1, none⟩ (.int .i64 v1)) ⟨w.heap.size + 2, 2, none⟩ (.int .i64 v2)) ⟨w.heap.size + 2, 3, none⟩ (.int .i64 v3)) ⟨w.heap.size + 2, 4, none⟩ (.int .i64 v4)) ⟨w.heap.size + 2, 5, none⟩ (.int .i64 v5)) ⟨w.heap.size + 2, 6, none⟩ (.int .i64 v6)) ⟨w.heap.size + 2, 7, none⟩ (.int .i64 v7)) ⟨w.heap.size + 2, 8, none⟩ (.int .i64 v8)) ⟨w.heap.size + 2, 9, none⟩ (.int .i64 v9)) ⟨w.heap.size + 2, 10, none⟩ (.int .i64 v10)) ⟨w.heap.size + 2, 11, none⟩ (.slice none 0 0)) ⟨w.heap.size + 2, 12, none⟩ (.slice none 0 0)) = y18 at hP q5_18 hz18 ⊢
        clear hw18
        refine wsPlan_done ?_
        go_wp2_with fail
        go_meet
        exact ⟨rfl, below_step hB hP, hz18, block_later hP Q2.out, q5_18⟩
    · skip
      (refine wsPlan_only rfl (fun K hK => ?_); replace hK := Lib.hid hK; go_simp; refine hK.out _ _ (hP.alloc hP.size _) (fun hP => ?_); clear hK K)
      generalize hw19 : World.alloc y0 (Obj.cells #[.int .i64 0, .int .i64 0, .int .i64 0, .int .i64 0, .int .i64 0, .int .i64 0, .int .i64 0, .int .i64 0, .int .i64 0, .int .i64 0, .int .i64 0, .slice none 0 0, .slice none 0 0] 54) = y19 at hP ⊢
      obtain ⟨q5_19, hb19⟩ := box1 hw19.symm
      have hz19 : w.heap.size + 3 ≤ y19.heap.size := by have := lt_block q5_19; omega
      clear hw19
      rw [hsd] at q5_19
      (refine wsPlan_only rfl (fun K hK => ?_); replace hK := Lib.hid hK; go_simp; go_at_call 122; (with_reducible refine (q14At_any l ad c _ 0 _ (intsL HL.out (below_step hB hP)) (by omega) V0.out).mono ?_); rintro z v20w ⟨rfl, hv20⟩; subst v20w; refine hK.out _ _ hP (fun hP => ?_); clear hK K)
      (refine wsPlan_only rfl (fun K hK => ?_); replace hK := Lib.hid hK; go_simp; go_at_call 122; (with_reducible refine (q14At_any l ad c _ 1 _ (intsL HL.out (below_step hB hP)) (by omega) V1.out).mono ?_); rintro z v21w ⟨rfl, hv21⟩; subst v21w; refine hK.out _ _ hP (fun hP => ?_); clear hK K)
      (refine wsPlan_only rfl (fun K hK => ?_); replace hK := Lib.hid hK; go_simp; go_at_call 122; (with_reducible refine (q14At_any l ad c _ 2 _ (intsL HL.out (below_step hB hP)) (by omega) V2.out).mono ?_); rintro z v22w ⟨rfl, hv22⟩; subst v22w; refine hK.out _ _ hP (fun hP => ?_); clear hK K)
      (refine wsPlan_only rfl (fun K hK => ?_); replace hK := Lib.hid hK; go_simp; go_at_call 122; (with_reducible refine (q14At_any l ad c _ 10 _ (intsL HL.out (below_step hB hP)) (by omega) V10.out).mono ?_); rintro z v23w ⟨rfl, hv23⟩; subst v23w; refine hK.out _ _ hP (fun hP => ?_); clear hK K)
      (refine wsPlan_take rfl (fun K hK => ?_); replace hK := Lib.hid hK; go_simp; first | (refine hK.out _ ?_; clear hK K) | (apply Exists.intro; refine ⟨fun w' hw => ?_, hK.out _ ?_⟩; (first | with_reducible exact rfl | (have z4 := cell_block ((hw.block (w.heap.size + 1) (by omega)).trans Q4.out); go_simp; exact rfl)); clear hK K))
      have f5 := free_block q5_19
      have k5 := cell_block q5_19
      (refine wsPlan_only rfl (fun K hK => ?_); replace hK := Lib.hid hK; go_simp; refine hK.out _ _ (by with_reducible exact (((((((((((((hP.setCell (p := ⟨w.heap.size + 2, 0, none⟩) (by dsimp only; omega) (.int .i64 v0)).setCell (p := ⟨w.heap.size + 2, 1, none⟩) (by dsimp only; omega) (.int .i64 v1)).setCell (p := ⟨w.heap.size + 2, 2, none⟩) (by dsimp only; omega) (.int .i64 v2)).setCell (p := ⟨w.heap.size + 2, 3, none⟩) (by dsimp only; omega) (.int .i64 v3)).setCell (p := ⟨w.heap.size + 2, 4, none⟩) (by dsimp only; omega) (.int .i64 v4)).setCell (p := ⟨w.heap.size + 2, 5, none⟩) (by dsimp only; omega) (.int .i64 v5)).setCell (p := ⟨w.heap.size + 2, 6, none⟩) (by dsimp only; omega) (.int .i64 v6)).setCell (p := ⟨w.heap.size + 2, 7, none⟩) (by dsimp only; omega) (.int .i64 v7)).setCell (p := ⟨w.heap.size + 2, 8, none⟩) (by dsimp only; omega) (.int .i64 v8)).setCell (p := ⟨w.heap.size + 2, 9, none⟩) (by dsimp only; omega) (.int .i64 v9)).setCell (p := ⟨w.heap.size + 2, 10, none⟩) (by dsimp only; omega) (.int .i64 v10)).setCell (p := ⟨w.heap.size + 2, 11, none⟩) (by dsimp only; omega) (.slice none 0 0)).setCell (p := ⟨w.heap.size + 2, 12, none⟩) (by dsimp only; omega) (.slice none 0 0))) (fun hP => ?_); clear hK K f5 k5)
      have q5_24 := (block_set (i := 12) (block_set (i := 11) (block_set (i := 10) (block_set (i := 9) (block_set (i := 8) (block_set (i := 7) (block_set (i := 6) (block_set (i := 5) (block_set (i := 4) (block_set (i := 3) (block_set (i := 2) (block_set (i := 1) (block_set (i := 0) q5_19 (.int .i64 v0)) (.int .i64 v1)) (.int .i64 v2)) (.int .i64 v3)) (.int .i64 v4)) (.int .i64 v5)) (.int .i64 v6)) (.int .i64 v7)) (.int .i64 v8)) (.int .i64 v9)) (.int .i64 v10)) (.slice none 0 0)) (.slice none 0 0))
      simp only [List.setIfInBounds_toArray, List.set_cons_zero, List.set_cons_succ] at q5_24
      have hz24 : w.heap.size + 3 ≤ (World.setCell (World.setCell (World.setCell (World.setCell (World.setCell (World.setCell (World.setCell (World.setCell (World.setCell (World.setCell (World.setCell (World.setCell (World.setCell y19 ⟨w.heap.size + 2, 0, none⟩ (.int .i64 v0)) ⟨w.heap.size + 2, 1, none⟩ (.int .i64 v1)) ⟨w.heap.size + 2, 2, none⟩ (.int .i64 v2)) ⟨w.heap.size + 2, 3, none⟩ (.int .i64 v3)) ⟨w.heap.size + 2, 4, none⟩ (.int .i64 v4)) ⟨w.heap.size + 2, 5, none⟩ (.int .i64 v5)) ⟨w.heap.size + 2, 6, none⟩ (.int .i64 v6)) ⟨w.heap.size + 2, 7, none⟩ (.int .i64 v7)) ⟨w.heap.size + 2, 8, none⟩ (.int .i64 v8)) ⟨w.heap.size + 2, 9, none⟩ (.int .i64 v9)) ⟨w.heap.size + 2, 10, none⟩ (.int .i64 v10)) ⟨w.heap.size + 2, 11, none⟩ (.slice none 0 0)) ⟨w.heap.size + 2, 12, none⟩ (.slice none 0 0)).heap.size := by simp only [World.size_setCell]; exact hz19
      generalize hw24 : (World.setCell (World.setCell (World.setCell (World.setCell (World.setCell (World.setCell (World.setCell (World.setCell (World.setCell (World.setCell (World.setCell (World.setCell (World.setCell y19 ⟨w.heap.size + 2, 0, none⟩ (.int .i64 v0)) ⟨w.heap.size + 2, 1, none⟩ (.int .i64 v1)) ⟨w.heap.size + 2, 2, none⟩ (.int .i64 v2)) ⟨w.heap.size + 2, 3, none⟩ (.int .i64 v3)) ⟨w.heap.size + 2, 4, none⟩ (.int .i64 v4)) ⟨w.heap.size + 2, 5, none⟩ (.int .i64 v5)) ⟨w.heap.size + 2, 6, none⟩ (.int .i64 v6)) ⟨w.heap.size + 2, 7, none⟩ (.int .i64 v7)) ⟨w.heap.size + 2, 8, none⟩ (.int .i64 v8)) ⟨w.heap.size + 2, 9, none⟩ (.int .i64 v9)) ⟨w.heap.size + 2, 10, none⟩ (.int .i64 v10)) ⟨w.heap.size + 2, 11, none⟩ (.slice none 0 0)) ⟨w.heap.size + 2, 12, none⟩ (.slice none 0 0)) = y24 at hP q5_24 hz24 ⊢
      clear hw24
      refine wsPlan_done ?_
      go_wp2_with fail
      go_meet
      exact ⟨rfl, below_step hB hP, hz24, block_later hP Q2.out, q5_24⟩
  case rest =>
    obtain ⟨rfl, hWc, hsc, hq2, hq5⟩ := hcut
    clear Q2 Q4 hB hsW
    go_wp2_with fail
    (with_reducible refine (q14At_any l ad c _ 11 _ (intsL HL.out hWc) (by omega) V11.out).mono ?_)
    rintro e1 z1 ⟨rfl, rfl⟩
    go_upto_region 5 with fail
    first
      | ((first | go_values | go_skip | go_guarded | go_step | go_upon | go_back); go_cut [7] from 40 to 58 (fun s7 wx => ∃ (k : Nat) (x : Option Addr) (c2 : Nat), k = cntQ n 200 ∧ s7 = .int .i64 ((12 + k : Nat) : Int) ∧ Below w.heap.size w wx ∧ w.heap.size + 3 ≤ wx.heap.size ∧ wx.heap[w.heap.size]? = some (.cells #[.int .i64 0, .int .i64 0, .int .i64 0, .int .i64 0, .int .i64 0, .int .i64 0, .int .i64 0, .int .i64 0, .int .i64 0, .int .i64 0, .int .i64 0, .slice none 0 0, .slice none 0 0] 54) ∧ wx.heap[w.heap.size + 2]? = some (.cells #[.int .i64 v0, .int .i64 v1, .int .i64 v2, .int .i64 v3, .int .i64 v4, .int .i64 v5, .int .i64 v6, .int .i64 v7, .int .i64 v8, .int .i64 v9, .int .i64 v10, .slice x k c2, .slice none 0 0] 54) ∧ OwnI (w.heap.size + 3) wx (.slice x k c2) ((List.range k).map (fun i => l.getD (12 + i) 0))))
      | ((first | go_values | go_skip | go_guarded | go_step | go_upon | go_back); (first | go_values | go_skip | go_guarded | go_step | go_upon | go_back); go_cut [7] from 40 to 58 (fun s7 wx => ∃ (k : Nat) (x : Option Addr) (c2 : Nat), k = cntQ n 200 ∧ s7 = .int .i64 ((12 + k : Nat) : Int) ∧ Below w.heap.size w wx ∧ w.heap.size + 3 ≤ wx.heap.size ∧ wx.heap[w.heap.size]? = some (.cells #[.int .i64 0, .int .i64 0, .int .i64 0, .int .i64 0, .int .i64 0, .int .i64 0, .int .i64 0, .int .i64 0, .int .i64 0, .int .i64 0, .int .i64 0, .slice none 0 0, .slice none 0 0] 54) ∧ wx.heap[w.heap.size + 2]? = some (.cells #[.int .i64 v0, .int .i64 v1, .int .i64 v2, .int .i64 v3, .int .i64 v4, .int .i64 v5, .int .i64 v6, .int .i64 v7, .int .i64 v8, .int .i64 v9, .int .i64 v10, .slice x k c2, .slice none 0 0] 54) ∧ OwnI (w.heap.size + 3) wx (.slice x k c2) ((List.range k).map (fun i => l.getD (12 + i) 0))))
      | ((first | go_values | go_skip | go_guarded | go_step | go_upon | go_back); (first | go_values | go_skip | go_guarded | go_step | go_upon | go_back); (first | go_values | go_skip | go_guarded | go_step | go_upon | go_back); go_cut [7] from 40 to 58 (fun s7 wx => ∃ (k : Nat) (x : Option Addr) (c2 : Nat), k = cntQ n 200 ∧ s7 = .int .i64 ((12 + k : Nat) : Int) ∧ Below w.heap.size w wx ∧ w.heap.size + 3 ≤ wx.heap.size ∧ wx.heap[w.heap.size]? = some (.cells #[.int .i64 0, .int .i64 0, .int .i64 0, .int .i64 0, .int .i64 0, .int .i64 0, .int .i64 0, .int .i64 0, .int .i64 0, .int .i64 0, .int .i64 0, .slice none 0 0, .slice none 0 0] 54) ∧ wx.heap[w.heap.size + 2]? = some (.cells #[.int .i64 v0, .int .i64 v1, .int .i64 v2, .int .i64 v3, .int .i64 v4, .int .i64 v5, .int .i64 v6, .int .i64 v7, .int .i64 v8, .int .i64 v9, .int .i64 v10, .slice x k c2, .slice none 0 0] 54) ∧ OwnI (w.heap.size + 3) wx (.slice x k c2) ((List.range k).map (fun i => l.getD (12 + i) 0))))
      | ((first | go_values | go_skip | go_guarded | go_step | go_upon | go_back); (first | go_values | go_skip | go_guarded | go_step | go_upon | go_back); (first | go_values | go_skip | go_guarded | go_step | go_upon | go_back); (first | go_values | go_skip | go_guarded | go_step | go_upon | go_back); go_cut [7] from 40 to 58 (fun s7 wx => ∃ (k : Nat) (x : Option Addr) (c2 : Nat), k = cntQ n 200 ∧ s7 = .int .i64 ((12 + k : Nat) : Int) ∧ Below w.heap.size w wx ∧ w.heap.size + 3 ≤ wx.heap.size ∧ wx.heap[w.heap.size]? = some (.cells #[.int .i64 0, .int .i64 0, .int .i64 0, .int .i64 0, .int .i64 0, .int .i64 0, .int .i64 0, .int .i64 0, .int .i64 0, .int .i64 0, .int .i64 0, .slice none 0 0, .slice none 0 0] 54) ∧ wx.heap[w.heap.size + 2]? = some (.cells #[.int .i64 v0, .int .i64 v1, .int .i64 v2, .int .i64 v3, .int .i64 v4, .int .i64 v5, .int .i64 v6, .int .i64 v7, .int .i64 v8, .int .i64 v9, .int .i64 v10, .slice x k c2, .slice none 0 0] 54) ∧ OwnI (w.heap.size + 3) wx (.slice x k c2) ((List.range k).map (fun i => l.getD (12 + i) 0))))
      | ((first | go_values | go_skip | go_guarded | go_step | go_upon | go_back); (first | go_values | go_skip | go_guarded | go_step | go_upon | go_back); (first | go_values | go_skip | go_guarded | go_step | go_upon | go_back); (first | go_values | go_skip | go_guarded | go_step | go_upon | go_back); (first | go_values | go_skip | go_guarded | go_step | go_upon | go_back); go_cut [7] from 40 to 58 (fun s7 wx => ∃ (k : Nat) (x : Option Addr) (c2 : Nat), k = cntQ n 200 ∧ s7 = .int .i64 ((12 + k : Nat) : Int) ∧ Below w.heap.size w wx ∧ w.heap.size + 3 ≤ wx.heap.size ∧ wx.heap[w.heap.size]? = some (.cells #[.int .i64 0, .int .i64 0, .int .i64 0, .int .i64 0, .int .i64 0, .int .i64 0, .int .i64 0, .int .i64 0, .int .i64 0, .int .i64 0, .int .i64 0, .slice none 0 0, .slice none 0 0] 54) ∧ wx.heap[w.heap.size + 2]? = some (.cells #[.int .i64 v0, .int .i64 v1, .int .i64 v2, .int .i64 v3, .int .i64 v4, .int .i64 v5, .int .i64 v6, .int .i64 v7, .int .i64 v8, .int .i64 v9, .int .i64 v10, .slice x k c2, .slice none 0 0] 54) ∧ OwnI (w.heap.size + 3) wx (.slice x k c2) ((List.range k).map (fun i => l.getD (12 + i) 0))))
      | ((first | go_values | go_skip | go_guarded | go_step | go_upon | go_back); (first | go_values | go_skip | go_guarded | go_step | go_upon | go_back); (first | go_values | go_skip | go_guarded | go_step | go_upon | go_back); (first | go_values | go_skip | go_guarded | go_step | go_upon | go_back); (first | go_values | go_skip | go_guarded | go_step | go_upon | go_back); (first | go_values | go_skip | go_guarded | go_step | go_upon | go_back); go_cut [7] from 40 to 58 (fun s7 wx => ∃ (k : Nat) (x : Option Addr) (c2 : Nat), k = cntQ n 200 ∧ s7 = .int .i64 ((12 + k : Nat) : Int) ∧ Below w.heap.size w wx ∧ w.heap.size + 3 ≤ wx.heap.size ∧ wx.heap[w.heap.size]? = some (.cells #[.int .i64 0, .int .i64 0, .int .i64 0, .int .i64 0, .int .i64 0, .int .i64 0, .int .i64 0, .int .i64 0, .int .i64 0, .int .i64 0, .int .i64 0, .slice none 0 0, .slice none 0 0] 54) ∧ wx.heap[w.heap.size + 2]? = some (.cells #[.int .i64 v0, .int .i64 v1, .int .i64 v2, .int .i64 v3, .int .i64 v4, .int .i64 v5, .int .i64 v6, .int .i64 v7, .int .i64 v8, .int .i64 v9, .int .i64 v10, .slice x k c2, .slice none 0 0] 54) ∧ OwnI (w.heap.size + 3) wx (.slice x k c2) ((List.range k).map (fun i => l.getD (12 + i) 0))))
      | ((first | go_values | go_skip | go_guarded | go_step | go_upon | go_back); (first | go_values | go_skip | go_guarded | go_step | go_upon | go_back); (first | go_values | go_skip | go_guarded | go_step | go_upon | go_back); (first | go_values | go_skip | go_guarded | go_step | go_upon | go_back); (first | go_values | go_skip | go_guarded | go_step | go_upon | go_back); (first | go_values | go_skip | go_guarded | go_step | go_upon | go_back); (first | go_values | go_skip | go_guarded | go_step | go_upon | go_back); go_cut [7] from 40 to 58 (fun s7 wx => ∃ (k : Nat) (x : Option Addr) (c2 : Nat), k = cntQ n 200 ∧ s7 = .int .i64 ((12 + k : Nat) : Int) ∧ Below w.heap.size w wx ∧ w.heap.size + 3 ≤ wx.heap.size ∧ wx.heap[w.heap.size]? = some (.cells #[.int .i64 0, .int .i64 0, .int .i64 0, .int .i64 0, .int .i64 0, .int .i64 0, .int .i64 0, .int .i64 0, .int .i64 0, .int .i64 0, .int .i64 0, .slice none 0 0, .slice none 0 0] 54) ∧ wx.heap[w.heap.size + 2]? = some (.cells #[.int .i64 v0, .int .i64 v1, .int .i64 v2, .int .i64 v3, .int .i64 v4, .int .i64 v5, .int .i64 v6, .int .i64 v7, .int .i64 v8, .int .i64 v9, .int .i64 v10, .slice x k c2, .slice none 0 0] 54) ∧ OwnI (w.heap.size + 3) wx (.slice x k c2) ((List.range k).map (fun i => l.getD (12 + i) 0))))
      | ((first | go_values | go_skip | go_guarded | go_step | go_upon | go_back); (first | go_values | go_skip | go_guarded | go_step | go_upon | go_back); (first | go_values | go_skip | go_guarded | go_step | go_upon | go_back); (first | go_values | go_skip | go_guarded | go_step | go_upon | go_back); (first | go_values | go_skip | go_guarded | go_step | go_upon | go_back); (first | go_values | go_skip | go_guarded | go_step | go_upon | go_back); (first | go_values | go_skip | go_guarded | go_step | go_upon | go_back); (first | go_values | go_skip | go_guarded | go_step | go_upon | go_back); go_cut [7] from 40 to 58 (fun s7 wx => ∃ (k : Nat) (x : Option Addr) (c2 : Nat), k = cntQ n 200 ∧ s7 = .int .i64 ((12 + k : Nat) : Int) ∧ Below w.heap.size w wx ∧ w.heap.size + 3 ≤ wx.heap.size ∧ wx.heap[w.heap.size]? = some (.cells #[.int .i64 0, .int .i64 0, .int .i64 0, .int .i64 0, .int .i64 0, .int .i64 0, .int .i64 0, .int .i64 0, .int .i64 0, .int .i64 0, .int .i64 0, .slice none 0 0, .slice none 0 0] 54) ∧ wx.heap[w.heap.size + 2]? = some (.cells #[.int .i64 v0, .int .i64 v1, .int .i64 v2, .int .i64 v3, .int .i64 v4, .int .i64 v5, .int .i64 v6, .int .i64 v7, .int .i64 v8, .int .i64 v9, .int .i64 v10, .slice x k c2, .slice none 0 0] 54) ∧ OwnI (w.heap.size + 3) wx (.slice x k c2) ((List.range k).map (fun i => l.getD (12 + i) 0))))
    case first =>
      go_wp2_with fail
      go_loopw [7, 8] (fun a i wr => ∃ (k : Nat) (x : Option Addr) (c2 : Nat), k ≤ cntQ n 200 ∧ a = .int .i64 ((12 + k : Nat) : Int) ∧ i = .int .i64 k ∧ Below w.heap.size w wr ∧ w.heap.size + 3 ≤ wr.heap.size ∧ wr.heap[w.heap.size]? = some (.cells #[.int .i64 0, .int .i64 0, .int .i64 0, .int .i64 0, .int .i64 0, .int .i64 0, .int .i64 0, .int .i64 0, .int .i64 0, .int .i64 0, .int .i64 0, .slice none 0 0, .slice none 0 0] 54) ∧ wr.heap[w.heap.size + 2]? = some (.cells #[.int .i64 v0, .int .i64 v1, .int .i64 v2, .int .i64 v3, .int .i64 v4, .int .i64 v5, .int .i64 v6, .int .i64 v7, .int .i64 v8, .int .i64 v9, .int .i64 v10, .slice x k c2, .slice none 0 0] 54) ∧ OwnI (w.heap.size + 3) wr (.slice x k c2) ((List.range k).map (fun i => l.getD (12 + i) 0))) (fun _ i _ => cntQ n 200 - (intOf i).toNat)
      case atStart => exact ⟨0, none, 0, Nat.zero_le _, rfl, rfl, hWc, hsc, hq2, hq5, OwnI.nil _ _⟩
      case round =>
        obtain ⟨k, x, c2, hk, rfl, rfl, hb, hsz, hq2', hq5', how⟩ := hrel
        have CN : Hid (cntQ n 200 ≤ 201) := Lib.hid (by unfold cntQ; omega)
        have CL : Hid (k < cntQ n 200 ↔ (k : Int) < n ∧ k ≤ 200) := Lib.hid cnt_lt
        clear hq2 hq5 hWc hsc
        have hk201 : k ≤ 201 := by have := CN.out; omega
        have hll : ((List.range k).map (fun i => l.getD (12 + i) 0)).length = k := by simp
        have HLL := Lib.hid hll
        clear hll
        by_cases hlt : k < cntQ n 200
        · obtain ⟨hn1, hn2⟩ := CL.out.1 hlt
          have d1 : decide ((k : Int) < n) = true := decide_eq_true hn1
          have d2 : decide (k ≤ 200) = true := decide_eq_true hn2
          have d3 : decide ((k : Int) ≤ 200) = true := decide_eq_true (by omega)
          clear hn1
          obtain ⟨y, hy⟩ : ∃ v, l.getD (12 + k) 0 = v := ⟨_, rfl⟩
          have Y := Lib.hid hy
          have SU : Hid ((List.range (k + 1)).map (fun i => l.getD (12 + i) 0) = (List.range k).map (fun i => l.getD (12 + i) 0) ++ [y]) := Lib.hid (by rw [don_succ, hy])
          clear hy
          obtain ⟨V, hVe⟩ : ∃ z, wr = z := ⟨_, rfl⟩
          rw [hVe] at hb hsz hq2' hq5' how ⊢
          have hdr : Below V.heap.size V V.drew := (Below.refl _ _).drew
          have q2 := block_later hdr hq2'
          have q5 := block_later hdr hq5'
          have OW := Lib.hid (how.keep hdr)
          have hs0 : w.heap.size + 3 ≤ V.drew.heap.size := by have := hdr.size; omega
          clear hVe hq2' hq5' how
          go_wp2_with fail
          refine wp_region_planS (Below (w.heap.size + 2) V) (.take 0 (.take 1 (.take 1 (.two 0 (.only 0 (.only 0 (.only 0 (.take 0 (.only 0 .done))))) 1 (.two 0 (.only 0 (.only 0 (.take 0 (.only 0 .done)))) 1 (.only 0 (.only 0 (.take 0 (.only 0 .done))))))))) (by kernel_rfl) (by kernel_rfl) (hdr.mono (by omega)) (fun hP => ?_)
          generalize hdw : V.drew = y0 at hP q2 q5 OW hs0 ⊢
          clear hdw hdr
          (refine wsPlan_take rfl (fun K hK => ?_); replace hK := Lib.hid hK; go_simp; first | (refine hK.out _ ?_; clear hK K) | (apply Exists.intro; refine ⟨fun w' hw => ?_, hK.out _ ?_⟩; (first | with_reducible exact rfl | skip); clear hK K))
          (refine wsPlan_take rfl (fun K hK => ?_); replace hK := Lib.hid hK; go_simp; first | (refine hK.out _ ?_; clear hK K) | (apply Exists.intro; refine ⟨fun w' hw => ?_, hK.out _ ?_⟩; (first | with_reducible exact rfl | skip); clear hK K))
          (refine wsPlan_take rfl (fun K hK => ?_); replace hK := Lib.hid hK; go_simp; first | (refine hK.out _ ?_; clear hK K) | (apply Exists.intro; refine ⟨fun w' hw => ?_, hK.out _ ?_⟩; (first | with_reducible exact rfl | skip); clear hK K))
          refine wsPlan_two ?_ ?_
          · skip
            have k5 := cell_block q5
            (refine wsPlan_only rfl (fun K hK => ?_); replace hK := Lib.hid hK; go_simp; refine hK.out _ _ hP (fun hP => ?_); clear hK K k5)
            (refine wsPlan_only rfl (fun K hK => ?_); replace hK := Lib.hid hK; go_simp; go_at_call 122; (with_reducible refine (q14At_any l ad c _ (12 + k) _ (intsL HL.out (hb.trans (hP.mono (by omega)))) (by omega) Y.out).mono ?_); rintro z v26w ⟨rfl, hv26⟩; subst v26w; refine hK.out _ _ hP (fun hP => ?_); clear hK K)
            (refine wsPlan_only rfl (fun K hK => ?_); replace hK := Lib.hid hK; go_simp; refine hK.out _ _ (hP.alloc (by have := hP.size; omega) _) (fun hP => ?_); clear hK K)
            have hw27 : Below y0.heap.size y0 (World.alloc y0 (Obj.cells #[.int .i64 y] 3)) := (Below.refl _ _).alloc (Nat.le_refl _) _
            have LI27 := Lib.hid (lit_ints (w := y0) (b := y0.heap.size) (n := 1) [y] rfl rfl rfl (by unfold maxLen; simp))
            have q5_27 := block_later hw27 q5
            have q2_27 := block_later hw27 q2
            have OW_27 := Lib.hid (OW.out.keep hw27)
            have hs_27 : w.heap.size + 3 ≤ (World.alloc y0 (Obj.cells #[.int .i64 y] 3)).heap.size := by simp only [World.size_alloc]; have := hs0; omega
            (refine wsPlan_only rfl (fun K hK => ?_); replace hK := Lib.hid hK; refine step_app (by rfl) _ _ (by rfl) (w.heap.size + 3) _ ((List.range k).map (fun i => l.getD (12 + i) 0)) [y] (by rfl) OW_27.out _ 1 _ (by rfl) rfl LI27.out (by have := HLL.out; omega) hs_27 ?_; intro x28 c28 w28 hown hbn; refine hK.out _ _ (hP.trans (hbn.mono (by omega))) (fun hP => ?_); clear hK K)
            have q5_28 := (hbn.block (w.heap.size + 2) (by omega)).trans q5_27
            have q2_28 := (hbn.block w.heap.size (by omega)).trans q2_27
            have hs_28 : w.heap.size + 3 ≤ w28.heap.size := by have := hbn.size; have := hs_27; omega
            rw [HLL.out] at hown ⊢
            have OW_28 := Lib.hid hown
            clear hown hbn
            (refine wsPlan_take rfl (fun K hK => ?_); replace hK := Lib.hid hK; go_simp; first | (refine hK.out _ ?_; clear hK K) | (apply Exists.intro; refine ⟨fun w' hw => ?_, hK.out _ ?_⟩; (first | with_reducible exact rfl | skip); clear hK K))
            have f5 := free_block q5_28
            have k5 := cell_block q5_28
            (refine wsPlan_only rfl (fun K hK => ?_); replace hK := Lib.hid hK; go_simp; refine hK.out _ _ (hP.setCell (p := ⟨w.heap.size + 2, 11, none⟩) (Nat.le_refl _) _) (fun hP => ?_); clear hK K f5 k5)
            have q5_30 := block_set (i := 11) q5_28 (.slice x28 (k + 1) c28)
            have q2_30 := block_far (a := ⟨w.heap.size + 2, 11, none⟩) q2_28 (by dsimp only; omega) (.slice x28 (k + 1) c28)
            have OW_30 := Lib.hid (OwnI.far (b := w.heap.size + 2) (i := 11) (u := .slice x28 (k + 1) c28) OW_28.out (by omega))
            simp only [List.setIfInBounds_toArray, List.set_cons_zero, List.set_cons_succ] at q5_30
            have hs_30 : w.heap.size + 3 ≤ (World.setCell w28 ⟨w.heap.size + 2, 11, none⟩ (.slice x28 (k + 1) c28)).heap.size := by simp only [World.size_setCell]; exact hs_28
            generalize hw30 : World.setCell w28 ⟨w.heap.size + 2, 11, none⟩ (.slice x28 (k + 1) c28) = y30 at hP q5_30 q2_30 OW_30 hs_30 ⊢
            clear hw30
            refine wsPlan_done ?_
            have hBE := hb.trans (hP.mono (by omega))
            go_wp2_with fail
            go_roundw
            case rel => exact ⟨k + 1, x28, c28, by omega, by rw [show ((12 + (k + 1) : Nat) : Int) = ((12 + k : Nat) : Int) + 1 by omega]; simp, by go_num, hBE, hs_30, q2_30, q5_30, by rw [SU.out]; exact OW_30.out⟩
            case measure => simp [intOf]; omega
          · skip
            (refine wsPlan_only rfl (fun K hK => ?_); replace hK := Lib.hid hK; go_simp; go_at_call 122; (with_reducible refine (q14At_any l ad c _ (12 + k) _ (intsL HL.out (hb.trans (hP.mono (by omega)))) (by omega) Y.out).mono ?_); rintro z vvw ⟨rfl, hvv⟩; subst vvw; refine hK.out _ _ hP (fun hP => ?_); clear hK K)
            refine wsPlan_two ?_ ?_
            · skip
              have k5 := cell_block q5
              (refine wsPlan_only rfl (fun K hK => ?_); replace hK := Lib.hid hK; go_simp; refine hK.out _ _ hP (fun hP => ?_); clear hK K k5)
              (refine wsPlan_only rfl (fun K hK => ?_); replace hK := Lib.hid hK; go_simp; refine hK.out _ _ (hP.alloc (by have := hP.size; omega) _) (fun hP => ?_); clear hK K)
              have hw32 : Below y0.heap.size y0 (World.alloc y0 (Obj.cells #[.int .i64 y] 3)) := (Below.refl _ _).alloc (Nat.le_refl _) _
              have LI32 := Lib.hid (lit_ints (w := y0) (b := y0.heap.size) (n := 1) [y] rfl rfl rfl (by unfold maxLen; simp))
              have q5_32 := block_later hw32 q5
              have q2_32 := block_later hw32 q2
              have OW_32 := Lib.hid (OW.out.keep hw32)
              have hs_32 : w.heap.size + 3 ≤ (World.alloc y0 (Obj.cells #[.int .i64 y] 3)).heap.size := by simp only [World.size_alloc]; have := hs0; omega
              (refine wsPlan_only rfl (fun K hK => ?_); replace hK := Lib.hid hK; refine step_app (by rfl) _ _ (by rfl) (w.heap.size + 3) _ ((List.range k).map (fun i => l.getD (12 + i) 0)) [y] (by rfl) OW_32.out _ 1 _ (by rfl) rfl LI32.out (by have := HLL.out; omega) hs_32 ?_; intro x33 c33 w33 hown hbn; refine hK.out _ _ (hP.trans (hbn.mono (by omega))) (fun hP => ?_); clear hK K)
              have q5_33 := (hbn.block (w.heap.size + 2) (by omega)).trans q5_32
              have q2_33 := (hbn.block w.heap.size (by omega)).trans q2_32
              have hs_33 : w.heap.size + 3 ≤ w33.heap.size := by have := hbn.size; have := hs_32; omega
              rw [HLL.out] at hown ⊢
              have OW_33 := Lib.hid hown
              clear hown hbn
              (refine wsPlan_take rfl (fun K hK => ?_); replace hK := Lib.hid hK; go_simp; first | (refine hK.out _ ?_; clear hK K) | (apply Exists.intro; refine ⟨fun w' hw => ?_, hK.out _ ?_⟩; (first | with_reducible exact rfl | skip); clear hK K))
              have f5 := free_block q5_33
              have k5 := cell_block q5_33
              (refine wsPlan_only rfl (fun K hK => ?_); replace hK := Lib.hid hK; go_simp; refine hK.out _ _ (hP.setCell (p := ⟨w.heap.size + 2, 11, none⟩) (Nat.le_refl _) _) (fun hP => ?_); clear hK K f5 k5)
              have q5_35 := block_set (i := 11) q5_33 (.slice x33 (k + 1) c33)
              have q2_35 := block_far (a := ⟨w.heap.size + 2, 11, none⟩) q2_33 (by dsimp only; omega) (.slice x33 (k + 1) c33)
              have OW_35 := Lib.hid (OwnI.far (b := w.heap.size + 2) (i := 11) (u := .slice x33 (k + 1) c33) OW_33.out (by omega))
              simp only [List.setIfInBounds_toArray, List.set_cons_zero, List.set_cons_succ] at q5_35
              have hs_35 : w.heap.size + 3 ≤ (World.setCell w33 ⟨w.heap.size + 2, 11, none⟩ (.slice x33 (k + 1) c33)).heap.size := by simp only [World.size_setCell]; exact hs_33
              generalize hw35 : World.setCell w33 ⟨w.heap.size + 2, 11, none⟩ (.slice x33 (k + 1) c33) = y35 at hP q5_35 q2_35 OW_35 hs_35 ⊢
              clear hw35
              refine wsPlan_done ?_
              have hBE := hb.trans (hP.mono (by omega))
              go_wp2_with fail
              go_roundw
              case rel => exact ⟨k + 1, x33, c33, by omega, by rw [show ((12 + (k + 1) : Nat) : Int) = ((12 + k : Nat) : Int) + 1 by omega]; simp, by go_num, hBE, hs_35, q2_35, q5_35, by rw [SU.out]; exact OW_35.out⟩
              case measure => simp [intOf]; omega
            · skip
              (refine wsPlan_only rfl (fun K hK => ?_); replace hK := Lib.hid hK; go_simp; refine hK.out _ _ (hP.alloc (by have := hP.size; omega) _) (fun hP => ?_); clear hK K)
              have hw36 : Below y0.heap.size y0 (World.alloc y0 (Obj.cells #[.int .i64 y] 3)) := (Below.refl _ _).alloc (Nat.le_refl _) _
              have LI36 := Lib.hid (lit_ints (w := y0) (b := y0.heap.size) (n := 1) [y] rfl rfl rfl (by unfold maxLen; simp))
              have q5_36 := block_later hw36 q5
              have q2_36 := block_later hw36 q2
              have OW_36 := Lib.hid (OW.out.keep hw36)
              have hs_36 : w.heap.size + 3 ≤ (World.alloc y0 (Obj.cells #[.int .i64 y] 3)).heap.size := by simp only [World.size_alloc]; have := hs0; omega
              have k5 := cell_block q5_36
              (refine wsPlan_only rfl (fun K hK => ?_); replace hK := Lib.hid hK; go_simp; refine hK.out _ _ hP (fun hP => ?_); clear hK K k5)
              (refine wsPlan_only rfl (fun K hK => ?_); replace hK := Lib.hid hK; refine step_app (by rfl) _ _ (by rfl) (w.heap.size + 3) _ ((List.range k).map (fun i => l.getD (12 + i) 0)) [y] (by rfl) OW_36.out _ 1 _ (by rfl) rfl LI36.out (by have := HLL.out; omega) hs_36 ?_; intro x38 c38 w38 hown hbn; refine hK.out _ _ (hP.trans (hbn.mono (by omega))) (fun hP => ?_); clear hK K)
              have q5_38 := (hbn.block (w.heap.size + 2) (by omega)).trans q5_36
              have q2_38 := (hbn.block w.heap.size (by omega)).trans q2_36
              have hs_38 : w.heap.size + 3 ≤ w38.heap.size := by have := hbn.size; have := hs_36; omega
              rw [HLL.out] at hown ⊢
              have OW_38 := Lib.hid hown
              clear hown hbn
              (refine wsPlan_take rfl (fun K hK => ?_); replace hK := Lib.hid hK; go_simp; first | (refine hK.out _ ?_; clear hK K) | (apply Exists.intro; refine ⟨fun w' hw => ?_, hK.out _ ?_⟩; (first | with_reducible exact rfl | skip); clear hK K))
              have f5 := free_block q5_38
              have k5 := cell_block q5_38
              (refine wsPlan_only rfl (fun K hK => ?_); replace hK := Lib.hid hK; go_simp; refine hK.out _ _ (hP.setCell (p := ⟨w.heap.size + 2, 11, none⟩) (Nat.le_refl _) _) (fun hP => ?_); clear hK K f5 k5)
              have q5_40 := block_set (i := 11) q5_38 (.slice x38 (k + 1) c38)
              have q2_40 := block_far (a := ⟨w.heap.size + 2, 11, none⟩) q2_38 (by dsimp only; omega) (.slice x38 (k + 1) c38)
              have OW_40 := Lib.hid (OwnI.far (b := w.heap.size + 2) (i := 11) (u := .slice x38 (k + 1) c38) OW_38.out (by omega))
              simp only [List.setIfInBounds_toArray, List.set_cons_zero, List.set_cons_succ] at q5_40
              have hs_40 : w.heap.size + 3 ≤ (World.setCell w38 ⟨w.heap.size + 2, 11, none⟩ (.slice x38 (k + 1) c38)).heap.size := by simp only [World.size_setCell]; exact hs_38
              generalize hw40 : World.setCell w38 ⟨w.heap.size + 2, 11, none⟩ (.slice x38 (k + 1) c38) = y40 at hP q5_40 q2_40 OW_40 hs_40 ⊢
              clear hw40
              refine wsPlan_done ?_
              have hBE := hb.trans (hP.mono (by omega))
              go_wp2_with fail
              go_roundw
              case rel => exact ⟨k + 1, x38, c38, by omega, by rw [show ((12 + (k + 1) : Nat) : Int) = ((12 + k : Nat) : Int) + 1 by omega]; simp, by go_num, hBE, hs_40, q2_40, q5_40, by rw [SU.out]; exact OW_40.out⟩
              case measure => simp [intOf]; omega
        have EK : Hid (k = cntQ n 200) := Lib.hid (by omega)
        by_cases h1 : (k : Int) < n
        · have d1 : decide ((k : Int) < n) = true := decide_eq_true h1
          have h2 : ¬ k ≤ 200 := fun h => hlt (CL.out.2 ⟨h1, h⟩)
          have d2 : decide (k ≤ 200) = false := decide_eq_false h2
          have d3 : decide ((k : Int) ≤ 200) = false := decide_eq_false (by omega)
          clear h1 h2 hlt
          go_wp2_with fail
          go_meet
          exact ⟨k, x, c2, EK.out, rfl, hb, hsz, hq2', hq5', how⟩
        · have d1 : decide ((k : Int) < n) = false := decide_eq_false h1
          clear h1 hlt
          go_wp2_with fail
          go_meet
          exact ⟨k, x, c2, EK.out, rfl, hb, hsz, hq2', hq5', how⟩
    case rest =>
      clear hq2 hq5 hWc hsc
      obtain ⟨k, x, c2, hkc, rfl, hb, hsz, hq2', hq5', how⟩ := hcut
      have EK := Lib.hid hkc
      have hk201 : k ≤ 201 := by rw [hkc]; unfold cntQ; omega
      have HLL : Hid (((List.range k).map (fun i => l.getD (12 + i) 0)).length = k) := Lib.hid (by simp)
      clear hkc
      obtain ⟨m, hm⟩ : ∃ v, l.getD (12 + k) 0 = v := ⟨_, rfl⟩
      have M := Lib.hid hm
      clear hm
      obtain ⟨a0, ha0⟩ : ∃ a, 12 + k + 1 = a := ⟨_, rfl⟩
      have A0 := Lib.hid ha0
      have ha0b : a0 ≤ 214 := by omega
      clear ha0
      have OW := Lib.hid how
      have k5 := cell_block hq5'
      clear how
      go_wp2_with fail
      clear k5
      (with_reducible refine (q14At_any l ad c _ (12 + k) _ (intsL HL.out hb) (by omega) M.out).mono ?_)
      rintro e1 z1 ⟨rfl, rfl⟩
      go_upto_region 12 with fail
      first
        | ((first | go_values | go_skip | go_guarded | go_step | go_upon | go_back); go_cut [9] from 64 to 84 (fun s9 wx => ∃ (j : Nat) (x3 : Option Addr) (c3 : Nat) (its : List FItem), j = cntQ m 300 ∧ its.map Prod.fst = (featsQ l a0 j).1 ∧ Below w.heap.size w wx ∧ w.heap.size + 3 ≤ wx.heap.size ∧ wx.heap[w.heap.size]? = some (.cells #[.int .i64 0, .int .i64 0, .int .i64 0, .int .i64 0, .int .i64 0, .int .i64 0, .int .i64 0, .int .i64 0, .int .i64 0, .int .i64 0, .int .i64 0, .slice none 0 0, .slice none 0 0] 54) ∧ wx.heap[w.heap.size + 2]? = some (.cells #[.int .i64 v0, .int .i64 v1, .int .i64 v2, .int .i64 v3, .int .i64 v4, .int .i64 v5, .int .i64 v6, .int .i64 v7, .int .i64 v8, .int .i64 v9, .int .i64 v10, .slice x k c2, .slice x3 j c3] 54) ∧ OwnI (w.heap.size + 3) wx (.slice x k c2) ((List.range k).map (fun i => l.getD (12 + i) 0)) ∧ wx.ownsRow (w.heap.size + 3) 32 9 (.slice x3 j c3) j (its.flatMap featCells) ∧ Parts (w.heap.size + 3) wx its))
        | ((first | go_values | go_skip | go_guarded | go_step | go_upon | go_back); (first | go_values | go_skip | go_guarded | go_step | go_upon | go_back); go_cut [9] from 64 to 84 (fun s9 wx => ∃ (j : Nat) (x3 : Option Addr) (c3 : Nat) (its : List FItem), j = cntQ m 300 ∧ its.map Prod.fst = (featsQ l a0 j).1 ∧ Below w.heap.size w wx ∧ w.heap.size + 3 ≤ wx.heap.size ∧ wx.heap[w.heap.size]? = some (.cells #[.int .i64 0, .int .i64 0, .int .i64 0, .int .i64 0, .int .i64 0, .int .i64 0, .int .i64 0, .int .i64 0, .int .i64 0, .int .i64 0, .int .i64 0, .slice none 0 0, .slice none 0 0] 54) ∧ wx.heap[w.heap.size + 2]? = some (.cells #[.int .i64 v0, .int .i64 v1, .int .i64 v2, .int .i64 v3, .int .i64 v4, .int .i64 v5, .int .i64 v6, .int .i64 v7, .int .i64 v8, .int .i64 v9, .int .i64 v10, .slice x k c2, .slice x3 j c3] 54) ∧ OwnI (w.heap.size + 3) wx (.slice x k c2) ((List.range k).map (fun i => l.getD (12 + i) 0)) ∧ wx.ownsRow (w.heap.size + 3) 32 9 (.slice x3 j c3) j (its.flatMap featCells) ∧ Parts (w.heap.size + 3) wx its))
        | ((first | go_values | go_skip | go_guarded | go_step | go_upon | go_back); (first | go_values | go_skip | go_guarded | go_step | go_upon | go_back); (first | go_values | go_skip | go_guarded | go_step | go_upon | go_back); go_cut [9] from 64 to 84 (fun s9 wx => ∃ (j : Nat) (x3 : Option Addr) (c3 : Nat) (its : List FItem), j = cntQ m 300 ∧ its.map Prod.fst = (featsQ l a0 j).1 ∧ Below w.heap.size w wx ∧ w.heap.size + 3 ≤ wx.heap.size ∧ wx.heap[w.heap.size]? = some (.cells #[.int .i64 0, .int .i64 0, .int .i64 0, .int .i64 0, .int .i64 0, .int .i64 0, .int .i64 0, .int .i64 0, .int .i64 0, .int .i64 0, .int .i64 0, .slice none 0 0, .slice none 0 0] 54) ∧ wx.heap[w.heap.size + 2]? = some (.cells #[.int .i64 v0, .int .i64 v1, .int .i64 v2, .int .i64 v3, .int .i64 v4, .int .i64 v5, .int .i64 v6, .int .i64 v7, .int .i64 v8, .int .i64 v9, .int .i64 v10, .slice x k c2, .slice x3 j c3] 54) ∧ OwnI (w.heap.size + 3) wx (.slice x k c2) ((List.range k).map (fun i => l.getD (12 + i) 0)) ∧ wx.ownsRow (w.heap.size + 3) 32 9 (.slice x3 j c3) j (its.flatMap featCells) ∧ Parts (w.heap.size + 3) wx its))
        | ((first | go_values | go_skip | go_guarded | go_step | go_upon | go_back); (first | go_values | go_skip | go_guarded | go_step | go_upon | go_back); (first | go_values | go_skip | go_guarded | go_step | go_upon | go_back); (first | go_values | go_skip | go_guarded | go_step | go_upon | go_back); go_cut [9] from 64 to 84 (fun s9 wx => ∃ (j : Nat) (x3 : Option Addr) (c3 : Nat) (its : List FItem), j = cntQ m 300 ∧ its.map Prod.fst = (featsQ l a0 j).1 ∧ Below w.heap.size w wx ∧ w.heap.size + 3 ≤ wx.heap.size ∧ wx.heap[w.heap.size]? = some (.cells #[.int .i64 0, .int .i64 0, .int .i64 0, .int .i64 0, .int .i64 0, .int .i64 0, .int .i64 0, .int .i64 0, .int .i64 0, .int .i64 0, .int .i64 0, .slice none 0 0, .slice none 0 0] 54) ∧ wx.heap[w.heap.size + 2]? = some (.cells #[.int .i64 v0, .int .i64 v1, .int .i64 v2, .int .i64 v3, .int .i64 v4, .int .i64 v5, .int .i64 v6, .int .i64 v7, .int .i64 v8, .int .i64 v9, .int .i64 v10, .slice x k c2, .slice x3 j c3] 54) ∧ OwnI (w.heap.size + 3) wx (.slice x k c2) ((List.range k).map (fun i => l.getD (12 + i) 0)) ∧ wx.ownsRow (w.heap.size + 3) 32 9 (.slice x3 j c3) j (its.flatMap featCells) ∧ Parts (w.heap.size + 3) wx its))
        | ((first | go_values | go_skip | go_guarded | go_step | go_upon | go_back); (first | go_values | go_skip | go_guarded | go_step | go_upon | go_back); (first | go_values | go_skip | go_guarded | go_step | go_upon | go_back); (first | go_values | go_skip | go_guarded | go_step | go_upon | go_back); (first | go_values | go_skip | go_guarded | go_step | go_upon | go_back); go_cut [9] from 64 to 84 (fun s9 wx => ∃ (j : Nat) (x3 : Option Addr) (c3 : Nat) (its : List FItem), j = cntQ m 300 ∧ its.map Prod.fst = (featsQ l a0 j).1 ∧ Below w.heap.size w wx ∧ w.heap.size + 3 ≤ wx.heap.size ∧ wx.heap[w.heap.size]? = some (.cells #[.int .i64 0, .int .i64 0, .int .i64 0, .int .i64 0, .int .i64 0, .int .i64 0, .int .i64 0, .int .i64 0, .int .i64 0, .int .i64 0, .int .i64 0, .slice none 0 0, .slice none 0 0] 54) ∧ wx.heap[w.heap.size + 2]? = some (.cells #[.int .i64 v0, .int .i64 v1, .int .i64 v2, .int .i64 v3, .int .i64 v4, .int .i64 v5, .int .i64 v6, .int .i64 v7, .int .i64 v8, .int .i64 v9, .int .i64 v10, .slice x k c2, .slice x3 j c3] 54) ∧ OwnI (w.heap.size + 3) wx (.slice x k c2) ((List.range k).map (fun i => l.getD (12 + i) 0)) ∧ wx.ownsRow (w.heap.size + 3) 32 9 (.slice x3 j c3) j (its.flatMap featCells) ∧ Parts (w.heap.size + 3) wx its))
        | ((first | go_values | go_skip | go_guarded | go_step | go_upon | go_back); (first | go_values | go_skip | go_guarded | go_step | go_upon | go_back); (first | go_values | go_skip | go_guarded | go_step | go_upon | go_back); (first | go_values | go_skip | go_guarded | go_step | go_upon | go_back); (first | go_values | go_skip | go_guarded | go_step | go_upon | go_back); (first | go_values | go_skip | go_guarded | go_step | go_upon | go_back); go_cut [9] from 64 to 84 (fun s9 wx => ∃ (j : Nat) (x3 : Option Addr) (c3 : Nat) (its : List FItem), j = cntQ m 300 ∧ its.map Prod.fst = (featsQ l a0 j).1 ∧ Below w.heap.size w wx ∧ w.heap.size + 3 ≤ wx.heap.size ∧ wx.heap[w.heap.size]? = some (.cells #[.int .i64 0, .int .i64 0, .int .i64 0, .int .i64 0, .int .i64 0, .int .i64 0, .int .i64 0, .int .i64 0, .int .i64 0, .int .i64 0, .int .i64 0, .slice none 0 0, .slice none 0 0] 54) ∧ wx.heap[w.heap.size + 2]? = some (.cells #[.int .i64 v0, .int .i64 v1, .int .i64 v2, .int .i64 v3, .int .i64 v4, .int .i64 v5, .int .i64 v6, .int .i64 v7, .int .i64 v8, .int .i64 v9, .int .i64 v10, .slice x k c2, .slice x3 j c3] 54) ∧ OwnI (w.heap.size + 3) wx (.slice x k c2) ((List.range k).map (fun i => l.getD (12 + i) 0)) ∧ wx.ownsRow (w.heap.size + 3) 32 9 (.slice x3 j c3) j (its.flatMap featCells) ∧ Parts (w.heap.size + 3) wx its))
        | ((first | go_values | go_skip | go_guarded | go_step | go_upon | go_back); (first | go_values | go_skip | go_guarded | go_step | go_upon | go_back); (first | go_values | go_skip | go_guarded | go_step | go_upon | go_back); (first | go_values | go_skip | go_guarded | go_step | go_upon | go_back); (first | go_values | go_skip | go_guarded | go_step | go_upon | go_back); (first | go_values | go_skip | go_guarded | go_step | go_upon | go_back); (first | go_values | go_skip | go_guarded | go_step | go_upon | go_back); go_cut [9] from 64 to 84 (fun s9 wx => ∃ (j : Nat) (x3 : Option Addr) (c3 : Nat) (its : List FItem), j = cntQ m 300 ∧ its.map Prod.fst = (featsQ l a0 j).1 ∧ Below w.heap.size w wx ∧ w.heap.size + 3 ≤ wx.heap.size ∧ wx.heap[w.heap.size]? = some (.cells #[.int .i64 0, .int .i64 0, .int .i64 0, .int .i64 0, .int .i64 0, .int .i64 0, .int .i64 0, .int .i64 0, .int .i64 0, .int .i64 0, .int .i64 0, .slice none 0 0, .slice none 0 0] 54) ∧ wx.heap[w.heap.size + 2]? = some (.cells #[.int .i64 v0, .int .i64 v1, .int .i64 v2, .int .i64 v3, .int .i64 v4, .int .i64 v5, .int .i64 v6, .int .i64 v7, .int .i64 v8, .int .i64 v9, .int .i64 v10, .slice x k c2, .slice x3 j c3] 54) ∧ OwnI (w.heap.size + 3) wx (.slice x k c2) ((List.range k).map (fun i => l.getD (12 + i) 0)) ∧ wx.ownsRow (w.heap.size + 3) 32 9 (.slice x3 j c3) j (its.flatMap featCells) ∧ Parts (w.heap.size + 3) wx its))
        | ((first | go_values | go_skip | go_guarded | go_step | go_upon | go_back); (first | go_values | go_skip | go_guarded | go_step | go_upon | go_back); (first | go_values | go_skip | go_guarded | go_step | go_upon | go_back); (first | go_values | go_skip | go_guarded | go_step | go_upon | go_back); (first | go_values | go_skip | go_guarded | go_step | go_upon | go_back); (first | go_values | go_skip | go_guarded | go_step | go_upon | go_back); (first | go_values | go_skip | go_guarded | go_step | go_upon | go_back); (first | go_values | go_skip | go_guarded | go_step | go_upon | go_back); go_cut [9] from 64 to 84 (fun s9 wx => ∃ (j : Nat) (x3 : Option Addr) (c3 : Nat) (its : List FItem), j = cntQ m 300 ∧ its.map Prod.fst = (featsQ l a0 j).1 ∧ Below w.heap.size w wx ∧ w.heap.size + 3 ≤ wx.heap.size ∧ wx.heap[w.heap.size]? = some (.cells #[.int .i64 0, .int .i64 0, .int .i64 0, .int .i64 0, .int .i64 0, .int .i64 0, .int .i64 0, .int .i64 0, .int .i64 0, .int .i64 0, .int .i64 0, .slice none 0 0, .slice none 0 0] 54) ∧ wx.heap[w.heap.size + 2]? = some (.cells #[.int .i64 v0, .int .i64 v1, .int .i64 v2, .int .i64 v3, .int .i64 v4, .int .i64 v5, .int .i64 v6, .int .i64 v7, .int .i64 v8, .int .i64 v9, .int .i64 v10, .slice x k c2, .slice x3 j c3] 54) ∧ OwnI (w.heap.size + 3) wx (.slice x k c2) ((List.range k).map (fun i => l.getD (12 + i) 0)) ∧ wx.ownsRow (w.heap.size + 3) 32 9 (.slice x3 j c3) j (its.flatMap featCells) ∧ Parts (w.heap.size + 3) wx its))
      case first =>
        go_wp2_with fail
        go_loopw [7, 9] (fun a i wr => ∃ (j : Nat) (x3 : Option Addr) (c3 : Nat) (its : List FItem), j ≤ cntQ m 300 ∧ a = .int .i64 ((featsQ l a0 j).2 : Nat) ∧ i = .int .i64 j ∧ its.map Prod.fst = (featsQ l a0 j).1 ∧ Below w.heap.size w wr ∧ w.heap.size + 3 ≤ wr.heap.size ∧ wr.heap[w.heap.size]? = some (.cells #[.int .i64 0, .int .i64 0, .int .i64 0, .int .i64 0, .int .i64 0, .int .i64 0, .int .i64 0, .int .i64 0, .int .i64 0, .int .i64 0, .int .i64 0, .slice none 0 0, .slice none 0 0] 54) ∧ wr.heap[w.heap.size + 2]? = some (.cells #[.int .i64 v0, .int .i64 v1, .int .i64 v2, .int .i64 v3, .int .i64 v4, .int .i64 v5, .int .i64 v6, .int .i64 v7, .int .i64 v8, .int .i64 v9, .int .i64 v10, .slice x k c2, .slice x3 j c3] 54) ∧ OwnI (w.heap.size + 3) wr (.slice x k c2) ((List.range k).map (fun i => l.getD (12 + i) 0)) ∧ wr.ownsRow (w.heap.size + 3) 32 9 (.slice x3 j c3) j (its.flatMap featCells) ∧ Parts (w.heap.size + 3) wr its) (fun _ i _ => cntQ m 300 - (intOf i).toNat)
        case atStart => exact ⟨0, none, 0, [], Nat.zero_le _, by show _ = Value.int .i64 ((a0 : Nat) : Int); rw [← A0.out]; simp, rfl, rfl, hb, hsz, hq2', hq5', OW.out, own_nil _ _ _ _, fun x hx => absurd hx (by simp)⟩
        case round =>
          clear hb hsz hq2' hq5' OW
          obtain ⟨j, x3, c3, its, hj, rfl, rfl, hits, hb, hsz, hq2, hq5, hown, hrow, hparts⟩ := hrel
          have CN3 : Hid (cntQ m 300 ≤ 301) := Lib.hid (by unfold cntQ; omega)
          have CL3 : Hid (j < cntQ m 300 ↔ (j : Int) < m ∧ j ≤ 300) := Lib.hid cnt_lt
          have hj301 : j ≤ 301 := by have := CN3.out; omega
          obtain ⟨p, hp⟩ : ∃ p, (featsQ l a0 j).2 = p := ⟨_, rfl⟩
          have hpb : p ≤ 40000 := by have := featsQ_end l a0 j; omega
          rw [hp]
          have PP := Lib.hid hp
          have ITS := Lib.hid hits
          have OW := Lib.hid hown
          have RO := Lib.hid hrow
          have PA := Lib.hid hparts
          clear hp hits hown hrow hparts
          by_cases hjt : j < cntQ m 300
          · obtain ⟨hn3, hn4⟩ := CL3.out.1 hjt
            have e1 : decide ((j : Int) < m) = true := decide_eq_true hn3
            have e2 : decide (j ≤ 300) = true := decide_eq_true hn4
            have e3 : decide ((j : Int) ≤ 300) = true := decide_eq_true (by omega)
            clear hn3
            obtain ⟨f, e, hfe⟩ : ∃ f e, readF l p = (f, e) := ⟨_, _, rfl⟩
            have FE := Lib.hid hfe
            have FS : Hid ((featsQ l a0 (j + 1)).1 = (featsQ l a0 j).1 ++ [f] ∧ (featsQ l a0 (j + 1)).2 = e) := Lib.hid (by
              constructor
              · show (featsQ l a0 j).1 ++ [(readF l (featsQ l a0 j).2).1] = _
                rw [PP.out, hfe]
              · show (readF l (featsQ l a0 j).2).2 = _
                rw [PP.out, hfe])
            clear hfe
            go_wp2_with fail
            (with_reducible refine (q14read_any l ad c p _ (intsL HL.out hb) hpb FE.out).mono ?_)
            rintro er w1 ⟨va, vs, rfl, hop, hos, hb1⟩
            obtain ⟨aa, ca, rfl⟩ := owns_form hop
            obtain ⟨ab, cb, rfl⟩ := owns_form hos
            have hs1 := hb1.size
            have q2 := block_later hb1 hq2
            have q5 := block_later hb1 hq5
            have hB1 := below_step hb hb1
            have hal := ((Below.refl w1.heap.size w1).alloc (Nat.le_refl _) (.cells #[.int .i64 f.id, .int .i64 f.kind, .int .i64 f.x, .int .i64 f.y, .int .i64 f.rad, .slice aa f.area.length ca, .int .i64 f.dep, .int .i64 f.sym, .slice ab f.secs.length cb, .int .i64 e] 157)).alloc (by simp) (.cells #[.int .i64 f.id, .int .i64 f.kind, .int .i64 f.x, .int .i64 f.y, .int .i64 f.rad, .slice aa f.area.length ca, .int .i64 f.dep, .int .i64 f.sym, .slice ab f.secs.length cb] 32)
            have O2 := Lib.hid (own_keep (own_keep RO.out hb1) hal)
            have D2 := Lib.hid ((OW.out.keep hb1).keep hal)
            have A2 := Lib.hid (parts_snoc (x := (f, Value.slice aa f.area.length ca, Value.slice ab f.secs.length cb)) ((PA.out.keep hb1).keep hal) (own_mono (own_keep hop hal) hsz) (own_mono (own_keep hos hal) hsz))
            have q5a := block_alloc (o' := .cells #[.int .i64 f.id, .int .i64 f.kind, .int .i64 f.x, .int .i64 f.y, .int .i64 f.rad, .slice aa f.area.length ca, .int .i64 f.dep, .int .i64 f.sym, .slice ab f.secs.length cb, .int .i64 e] 157) q5
            have k5 := cell_block q5a
            have q5b := Lib.hid (block_later hal q5)
            have q2b := Lib.hid (block_later hal q2)
            have qtb := Lib.hid (block_alloc (o' := .cells #[.int .i64 f.id, .int .i64 f.kind, .int .i64 f.x, .int .i64 f.y, .int .i64 f.rad, .slice aa f.area.length ca, .int .i64 f.dep, .int .i64 f.sym, .slice ab f.secs.length cb] 32) (block_new w1 (.cells #[.int .i64 f.id, .int .i64 f.kind, .int .i64 f.x, .int .i64 f.y, .int .i64 f.rad, .slice aa f.area.length ca, .int .i64 f.dep, .int .i64 f.sym, .slice ab f.secs.length cb, .int .i64 e] 157)))
            have hBa : Below w.heap.size w _ := below_step hB1 hal
            clear hq2 hq5 hb1 hop hos RO PA OW hb q5a
            have OC : Hid (∀ u ∈ featCells (f, Value.slice aa f.area.length ca, Value.slice ab f.secs.length cb), u.oneCell' = true) := Lib.hid (by simp [featCells, Value.oneCell'])
            have HBS : w.heap.size + 3 ≤ ((w1.alloc (.cells #[.int .i64 f.id, .int .i64 f.kind, .int .i64 f.x, .int .i64 f.y, .int .i64 f.rad, .slice aa f.area.length ca, .int .i64 f.dep, .int .i64 f.sym, .slice ab f.secs.length cb, .int .i64 e] 157)).alloc (.cells #[.int .i64 f.id, .int .i64 f.kind, .int .i64 f.x, .int .i64 f.y, .int .i64 f.rad, .slice aa f.area.length ca, .int .i64 f.dep, .int .i64 f.sym, .slice ab f.secs.length cb] 32)).heap.size := by
              simp only [World.size_alloc]
              omega
            have hnb : ¬ w1.heap.size = w.heap.size + 2 := by omega
            have hnb2 : ¬ w.heap.size + 2 = w1.heap.size := by omega
            go_wp2_with (at_builtin; refine wpList_app1 rfl _ _ _ _ 9 104 (featV noFeat (.slice none 0 0) (.slice none 0 0)) rfl Tryz.underlying22 (by kernel_rfl) rfl (by decide) (w.heap.size + 3) _ j _ rfl O2.out (w1.heap.size + 1) (featCells (f, Value.slice aa f.area.length ca, Value.slice ab f.secs.length cb)) rfl (block_new_at _ (by first | rfl | simp)) rfl OC.out (by unfold maxLen; omega) (by omega) HBS ?_; intro x4 c4 w3 hown3 hg3 hb3; have q53 := (hb3.block (w.heap.size + 2) (by omega)).trans q5b.out; have f53 := free_block q53; have k53 := cell_block q53; have qt3 := grow_keep hg3 qtb.out (own_other O2.out qtb.out (by decide)); have kt3 := cell_block qt3)
            have D3 := Lib.hid (OwnI.far (b := w.heap.size + 2) (i := 12) (u := .slice x4 (j + 1) c4) (own_grow hg3 O2.out D2.out (by decide)) (by omega))
            have P3 := Lib.hid (Parts.far (b := w.heap.size + 2) (i := 12) (u := .slice x4 (j + 1) c4) (A2.out.grow hg3 O2.out) (by omega))
            have R3 := Lib.hid (own_far (b := w.heap.size + 2) (i := 12) (u := .slice x4 (j + 1) c4) hown3 (by omega))
            have q54 := block_set (i := 12) q53 (.slice x4 (j + 1) c4)
            have q24 := block_far (a := ⟨w.heap.size + 2, 12, none⟩) ((hb3.block w.heap.size (by omega)).trans q2b.out) (by dsimp only; omega) (.slice x4 (j + 1) c4)
            have hB5 := (hBa.trans (hb3.mono (by omega))).setCell (p := ⟨w.heap.size + 2, 12, none⟩) (by dsimp only; omega) (.slice x4 (j + 1) c4)
            have hs5 : w.heap.size + 3 ≤ (World.setCell w3 ⟨w.heap.size + 2, 12, none⟩ (.slice x4 (j + 1) c4)).heap.size := by simp only [World.size_setCell]; have := hb3.size; simp at this; omega
            simp only [List.setIfInBounds_toArray, List.set_cons_zero, List.set_cons_succ] at q54
            go_wp2_with fail
            go_roundw
            case rel => exact ⟨j + 1, x4, c4, its ++ [(f, Value.slice aa f.area.length ca, Value.slice ab f.secs.length cb)], by omega, by rw [FS.out.2], by go_num, by rw [List.map_append, ITS.out, FS.out.1]; rfl, hB5, hs5, q24, q54, D3.out, by rw [List.flatMap_append]; simpa using R3.out, P3.out⟩
            case measure => simp [intOf]; omega
          have EJ : Hid (j = cntQ m 300) := Lib.hid (by omega)
          by_cases g1 : (j : Int) < m
          · have e1 : decide ((j : Int) < m) = true := decide_eq_true g1
            have g2 : ¬ j ≤ 300 := fun h => hjt (CL3.out.2 ⟨g1, h⟩)
            have e2 : decide (j ≤ 300) = false := decide_eq_false g2
            have e3 : decide ((j : Int) ≤ 300) = false := decide_eq_false (by omega)
            clear g1 g2 hjt
            go_wp2_with fail
            go_meet
            exact ⟨j, x3, c3, its, EJ.out, ITS.out, hb, hsz, hq2, hq5, OW.out, RO.out, PA.out⟩
          · have e1 : decide ((j : Int) < m) = false := decide_eq_false g1
            clear g1 hjt
            go_wp2_with fail
            go_meet
            exact ⟨j, x3, c3, its, EJ.out, ITS.out, hb, hsz, hq2, hq5, OW.out, RO.out, PA.out⟩
      case rest =>
        clear hb hsz hq2' hq5' OW
        obtain ⟨j, x3, c3, its, hj, hits, hb, hsz, hq2, hq5, hown, hrow, hparts⟩ := hcut
        have EJ := Lib.hid hj
        have ITS := Lib.hid hits
        have OW := Lib.hid hown
        have RO := Lib.hid hrow
        have PA := Lib.hid hparts
        have hj301 : j ≤ 301 := by rw [hj]; unfold cntQ; omega
        clear hj hits hown hrow hparts
        obtain ⟨D, hD⟩ : ∃ D, (List.range k).map (fun i => l.getD (12 + i) 0) = D := ⟨_, rfl⟩
        obtain ⟨F, hF⟩ : ∃ F, its.map Prod.fst = F := ⟨_, rfl⟩
        have hDl : D.length = k := by rw [← hD]; exact HLL.out
        have hFl : F.length = j := by rw [← hF, ITS.out]; exact featsQ_len l a0 j
        have hil : its.length = j := by rw [← hFl, ← hF, List.length_map]
        have RS : Hid (readS l = ⟨v0, v1, v2, ⟨v3, v4, v5, v6, v7, v8, v9⟩, v10, D, F⟩) := Lib.hid (by
          unfold readS donQ
          rw [V0.out, V1.out, V2.out, V3.out, V4.out, V5.out, V6.out, V7.out, V8.out, V9.out, V10.out, V11.out, ← EK.out, M.out, A0.out, ← EJ.out, ← ITS.out, hD, hF])
        have IA : Hid (IntsAt wc (.slice x D.length c2) D) := Lib.hid (by
          have := OW.out
          rw [hD] at this
          rw [hDl]
          exact this.ints (by omega))
        have FA : Hid (FeatsAt wc (.slice x3 F.length c3) F) := Lib.hid (by
          rw [hFl, ← hF]
          refine FeatsAt.of_own (by unfold OwnR; rw [hil]; exact RO.out) PA.out (by omega) (fun y hy => ?_)
          have hm := featsQ_small l a0 j y.1 (by rw [← ITS.out]; exact List.mem_map_of_mem hy)
          exact ⟨by omega, by omega⟩)
        have OD : Hid (OwnI (w.heap.size + 3) wc (.slice x k c2) D) := Lib.hid (by
          have := OW.out
          rw [hD] at this
          exact this)
        have HF := Lib.hid hF
        have FS : Hid (∀ f ∈ F, f.area.length ≤ 25 ∧ f.secs.length ≤ 13) := Lib.hid (by
          rw [← hF, ITS.out]
          exact featsQ_small l a0 j)
        subst hDl
        subst hFl
        have Q2 := Lib.hid hq2
        have Q5 := Lib.hid hq5
        clear hD hF hil HLL EK EJ ITS OW M A0 hq2 hq5
        obtain ⟨s, hs⟩ : ∃ s : Sht, (⟨v0, v1, v2, ⟨v3, v4, v5, v6, v7, v8, v9⟩, v10, D, F⟩ : Sht) = s := ⟨_, rfl⟩
        obtain ⟨u, hu⟩ : ∃ z, decide (ShtOk ⟨v0, v1, v2, ⟨v3, v4, v5, v6, v7, v8, v9⟩, v10, D, F⟩) = z := ⟨_, rfl⟩
        have U := Lib.hid hu
        clear hu hs
        have HB := Lib.hid hb
        clear hb
        have k5 := cell_block Q5.out
        go_wp2_with fail
        clear k5
        (with_reducible refine (q14Valid_any (⟨v0, v1, v2, ⟨v3, v4, v5, v6, v7, v8, v9⟩, v10, D, F⟩ : Sht) _ _ _ IA.out FA.out U.out).mono ?_)
        rintro er w1 ⟨rfl, hb1⟩
        have hB1 := below_step HB.out hb1
        have q2 := block_later hb1 Q2.out
        have q5 := block_later hb1 Q5.out
        cases u
        · skip
          have E : Hid ((match fromL l with | some s => (s, (0 : Int)) | none => (noSht, 7)) = (noSht, 7)) := Lib.hid (by
            rw [from_ref, if_neg (fun h => of_decide_eq_false U.out (by rw [← RS.out]; exact h.1))])
          have f2 := free_block q2
          have k2 := cell_block q2
          have QZ := Lib.hid q2
          go_wp2_with fail
          have c9 := cell_block (block_set (i := 12) (block_set (i := 11) (block_set (i := 10) (block_set (i := 9) (block_set (i := 8) (block_set (i := 7) (block_set (i := 6) (block_set (i := 5) (block_set (i := 4) (block_set (i := 3) (block_set (i := 2) (block_set (i := 1) (block_set (i := 0) QZ.out (.int .i64 0)) (.int .i64 0)) (.int .i64 0)) (.int .i64 0)) (.int .i64 0)) (.int .i64 0)) (.int .i64 0)) (.int .i64 0)) (.int .i64 0)) (.int .i64 0)) (.int .i64 0)) (.slice none 0 0)) (.slice none 0 0))
          exact bodyPost_ret (v := .tuple #[shtV noSht (.slice none 0 0) (.slice none 0 0), .int .i64 7]) (by simp [results, Tryz.results38, go_sem, c9, noSht]) rfl ⟨noSht, 7, .slice none 0 0, .slice none 0 0, rfl, E.out, ints_noneF _, feats_noneF _, (((((((((((((hB1.setCell (by dsimp only; omega) _).setCell (by dsimp only; omega) _).setCell (by dsimp only; omega) _).setCell (by dsimp only; omega) _).setCell (by dsimp only; omega) _).setCell (by dsimp only; omega) _).setCell (by dsimp only; omega) _).setCell (by dsimp only; omega) _).setCell (by dsimp only; omega) _).setCell (by dsimp only; omega) _).setCell (by dsimp only; omega) _).setCell (by dsimp only; omega) _).setCell (by dsimp only; omega) _)⟩
        have OK := of_decide_eq_true U.out
        have h2a := OK.2.1
        have h3a := OK.2.2.2.2.2.2.2.1
        have h4a := Lib.hid (fewEls_of OK.2.2.2.2.2.2.2)
        have k5 := cell_block q5
        clear OK
        go_wp2_with fail
        clear k5
        (with_reducible refine (q14ints_any (⟨v0, v1, v2, ⟨v3, v4, v5, v6, v7, v8, v9⟩, v10, D, F⟩ : Sht) _ _ _ _ _ (intsL IA.out hb1) (FA.out.later hb1) h2a h3a h4a.out).mono ?_)
        rintro er w2 ⟨a6, c6, rfl, hint, hb2⟩
        obtain ⟨EL, hEL⟩ : ∃ EL, encS (⟨v0, v1, v2, ⟨v3, v4, v5, v6, v7, v8, v9⟩, v10, D, F⟩ : Sht) = EL := ⟨_, rfl⟩
        have HEL := Lib.hid hEL
        rw [hEL] at hint ⊢
        have HI := Lib.hid hint
        obtain ⟨dv, hdv⟩ : ∃ z, decide (l = EL) = z := ⟨_, rfl⟩
        have DV := Lib.hid hdv
        have hEl2 : EL.length ≤ 9223372036854775807 := by
          obtain ⟨_, _, e, _, h9, _⟩ := Lists.form HI.out
          exact h9
        have hB2 := below_step hB1 hb2
        have q2' := block_later hb2 q2
        have q5' := block_later hb2 q5
        have IA2 := Lib.hid (intsL (intsL IA.out hb1) hb2)
        have FA2 := Lib.hid ((FA.out.later hb1).later hb2)
        have OD2 := Lib.hid ((OD.out.keep hb1).keep hb2)
        have RO2 := Lib.hid (own_keep (own_keep RO.out hb1) hb2)
        have PA2 := Lib.hid ((PA.out.keep hb1).keep hb2)
        clear hint hEL hdv q2 q5 hb1 hb2 hB1 IA FA OD RO PA
        go_wp2_with fail
        (with_reducible refine (q08Ints_any _ _ _ _ _ _ _ _ _ (ints_rows HI.out) (ints_rows (intsL HL.out hB2)) hEl2 (by omega) (show decide (RowsEq 1 EL.length l.length (fun i _ => EL.getD i 0) (fun i _ => l.getD i 0)) = dv by rw [← DV.out, decide_eq_decide]; exact (ints_eq EL l).trans ⟨fun h => h.symm, fun h => h.symm⟩)).mono ?_)
        rintro er w3 ⟨rfl, hb3⟩
        have hB3 := below_step hB2 hb3
        have q2 := block_later hb3 q2'
        have q5 := block_later hb3 q5'
        cases dv
        · skip
          have E : Hid ((match fromL l with | some s => (s, (0 : Int)) | none => (noSht, 7)) = (noSht, 7)) := Lib.hid (by
            rw [from_ref, if_neg (fun h => of_decide_eq_false DV.out (by rw [← HEL.out, ← RS.out]; exact h.2.symm))])
          have f2 := free_block q2
          have k2 := cell_block q2
          have QZ := Lib.hid q2
          go_wp2_with fail
          have c9 := cell_block (block_set (i := 12) (block_set (i := 11) (block_set (i := 10) (block_set (i := 9) (block_set (i := 8) (block_set (i := 7) (block_set (i := 6) (block_set (i := 5) (block_set (i := 4) (block_set (i := 3) (block_set (i := 2) (block_set (i := 1) (block_set (i := 0) QZ.out (.int .i64 0)) (.int .i64 0)) (.int .i64 0)) (.int .i64 0)) (.int .i64 0)) (.int .i64 0)) (.int .i64 0)) (.int .i64 0)) (.int .i64 0)) (.int .i64 0)) (.int .i64 0)) (.slice none 0 0)) (.slice none 0 0))
          exact bodyPost_ret (v := .tuple #[shtV noSht (.slice none 0 0) (.slice none 0 0), .int .i64 7]) (by simp [results, Tryz.results38, go_sem, c9, noSht]) rfl ⟨noSht, 7, .slice none 0 0, .slice none 0 0, rfl, E.out, ints_noneF _, feats_noneF _, (((((((((((((hB3.setCell (by dsimp only; omega) _).setCell (by dsimp only; omega) _).setCell (by dsimp only; omega) _).setCell (by dsimp only; omega) _).setCell (by dsimp only; omega) _).setCell (by dsimp only; omega) _).setCell (by dsimp only; omega) _).setCell (by dsimp only; omega) _).setCell (by dsimp only; omega) _).setCell (by dsimp only; omega) _).setCell (by dsimp only; omega) _).setCell (by dsimp only; omega) _).setCell (by dsimp only; omega) _)⟩
        have E : Hid ((match fromL l with | some s => (s, (0 : Int)) | none => (noSht, 7)) = ((⟨v0, v1, v2, ⟨v3, v4, v5, v6, v7, v8, v9⟩, v10, D, F⟩ : Sht), 0)) := Lib.hid (by
          rw [from_ref, if_pos ⟨by rw [RS.out]; exact of_decide_eq_true U.out, by rw [RS.out, HEL.out]; exact (of_decide_eq_true DV.out).symm⟩, RS.out])
        have k5 := cell_block q5
        have f2 := free_block q2
        have k2 := cell_block q2
        have QZ := Lib.hid q2
        go_wp2_with fail
        have c9 := cell_block (block_set (i := 12) (block_set (i := 11) (block_set (i := 10) (block_set (i := 9) (block_set (i := 8) (block_set (i := 7) (block_set (i := 6) (block_set (i := 5) (block_set (i := 4) (block_set (i := 3) (block_set (i := 2) (block_set (i := 1) (block_set (i := 0) QZ.out (.int .i64 v0)) (.int .i64 v1)) (.int .i64 v2)) (.int .i64 v3)) (.int .i64 v4)) (.int .i64 v5)) (.int .i64 v6)) (.int .i64 v7)) (.int .i64 v8)) (.int .i64 v9)) (.int .i64 v10)) (.slice x D.length c2)) (.slice x3 F.length c3))
        exact bodyPost_ret (v := .tuple #[shtV (⟨v0, v1, v2, ⟨v3, v4, v5, v6, v7, v8, v9⟩, v10, D, F⟩ : Sht) (.slice x D.length c2) (.slice x3 F.length c3), .int .i64 0]) (by simp [results, Tryz.results38, go_sem, c9]) rfl ⟨(⟨v0, v1, v2, ⟨v3, v4, v5, v6, v7, v8, v9⟩, v10, D, F⟩ : Sht), 0, .slice x D.length c2, .slice x3 F.length c3, rfl, E.out, own_ints (k := 0) (OwnI.far (OwnI.far (OwnI.far (OwnI.far (OwnI.far (OwnI.far (OwnI.far (OwnI.far (OwnI.far (OwnI.far (OwnI.far (OwnI.far (OwnI.far (OD2.out.keep hb3) (by omega)) (by omega)) (by omega)) (by omega)) (by omega)) (by omega)) (by omega)) (by omega)) (by omega)) (by omega)) (by omega)) (by omega)) (by omega)) (Nat.le_trans (show D.length ≤ 200 from h2a) (by decide)), feats_far HF.out (own_far (own_far (own_far (own_far (own_far (own_far (own_far (own_far (own_far (own_far (own_far (own_far (own_far (own_keep RO2.out hb3) (by omega)) (by omega)) (by omega)) (by omega)) (by omega)) (by omega)) (by omega)) (by omega)) (by omega)) (by omega)) (by omega)) (by omega)) (by omega)) (Parts.far (Parts.far (Parts.far (Parts.far (Parts.far (Parts.far (Parts.far (Parts.far (Parts.far (Parts.far (Parts.far (Parts.far (Parts.far (PA2.out.keep hb3) (by omega)) (by omega)) (by omega)) (by omega)) (by omega)) (by omega)) (by omega)) (by omega)) (by omega)) (by omega)) (by omega)) (by omega)) (by omega)) (by omega) FS.out, (((((((((((((hB3.setCell (by dsimp only; omega) _).setCell (by dsimp only; omega) _).setCell (by dsimp only; omega) _).setCell (by dsimp only; omega) _).setCell (by dsimp only; omega) _).setCell (by dsimp only; omega) _).setCell (by dsimp only; omega) _).setCell (by dsimp only; omega) _).setCell (by dsimp only; omega) _).setCell (by dsimp only; omega) _).setCell (by dsimp only; omega) _).setCell (by dsimp only; omega) _).setCell (by dsimp only; omega) _)⟩
end Go.Proofs.YtdmegkkifiahdaaGreat
