/- The walks of sheet.Find and of the reference's Find, for every input. -/
import Derived.Test.YtdmegkkifiahdaaGreatKR
namespace Go.Proofs.YtdmegkkifiahdaaGreat
open Go.RowKit
attribute [local go_sem] bqOp bqAll bqUpon sqOp sqAll sqUpon ssOp ssAll
attribute [local irreducible] wpQuiet wpBQ wpPlan wsPlan
set_option linter.unusedVariables false
theorem cell_far {w : World} {b i g j : Nat} {u : Value} (hne : g ≠ b) : (w.setCell ⟨b, i, none⟩ u).cell? ⟨g, j, none⟩ = w.cell? ⟨g, j, none⟩ := by
  simp only [World.cell?]
  rw [Below.heap_setCell _ _ _ _ hne]
theorem rows_far {k n c b i : Nat} {w : World} {ad : Option Addr} {X : Nat → Nat → Int} {u : Value} (h : Rows k w (.slice ad n c) n X) (hf : ∀ g o, ad = some ⟨g, o, none⟩ → g ≠ b) : Rows k (w.setCell ⟨b, i, none⟩ u) (.slice ad n c) n X := by
  obtain ⟨ad', c', hv, hn, hc⟩ := h
  cases hv
  refine ⟨ad, c, rfl, hn, fun i hi => ?_⟩
  obtain ⟨g, o, hg, h⟩ := hc i hi
  exact ⟨g, o, hg, fun j hj => by rw [cell_far (hf g o hg)]; exact h j hj⟩
theorem pts_far {b i n c : Nat} {w : World} {ad : Option Addr} {l : List (Int × Int)} {u : Value} (h : PtsAt w (.slice ad n c) l) (hf : ∀ g o, ad = some ⟨g, o, none⟩ → g ≠ b) : PtsAt (w.setCell ⟨b, i, none⟩ u) (.slice ad n c) l := by
  obtain ⟨ad', c', e, h1, _, _⟩ := Lists.form h
  cases e
  exact ⟨rows_far h.rows hf, h.cap⟩
theorem secs_far {b i n c : Nat} {w : World} {ad : Option Addr} {l : List Sec} {u : Value} (h : SecsAt w (.slice ad n c) l) (hf : ∀ g o, ad = some ⟨g, o, none⟩ → g ≠ b) : SecsAt (w.setCell ⟨b, i, none⟩ u) (.slice ad n c) l := by
  obtain ⟨ad', c', e, h1, _, _⟩ := Lists.form h
  cases e
  exact ⟨rows_far h.rows hf, h.cap⟩
theorem fst_at {B : Nat → Bool} {n i : Nat} (h : fstI B n = (i : Int)) : B i = true := by
  have h1 := fstI_any B n
  rw [h, decide_eq_true (by omega)] at h1
  obtain ⟨j, hj, hb⟩ := of_decide_eq_true h1.symm
  have : ∃ m, m < n ∧ B m = true ∧ ∀ i, i < m → B i = false := by
    induction j using Nat.strongRecOn with
    | _ j ih =>
      by_cases hs : ∃ k, k < j ∧ B k = true
      · obtain ⟨k, hk, hbk⟩ := hs
        exact ih k hk (by omega) hbk
      · exact ⟨j, hj, hb, fun k hk => by
          cases hbk : B k with
          | false => rfl
          | true => exact absurd ⟨k, hk, hbk⟩ hs⟩
  obtain ⟨m, hm, hbm, hall⟩ := this
  have h2 := fstI_at hm hall hbm
  rw [h] at h2
  obtain rfl : i = m := by omega
  exact hbm
def findR (s : Sht) (id : Int) : Feat × Int := if ShtOk s then (match look s.feats id with | some f => (f, 0) | none => (noFeat, 4)) else (noFeat, 1)
def FindE (f : Feat) (k : Int) (w : World) (e : Ending) (w' : World) : Prop := ∃ va vs, e = .returned (.tuple #[featV f va vs, .int .i64 k]) ∧ PtsAt w' va f.area ∧ SecsAt w' vs f.secs ∧ Below w.heap.size w w'
theorem pts_none (w : World) : PtsAt w (.slice none 0 0) [] := ⟨⟨none, 0, rfl, by simp, fun i hi => absurd hi (Nat.not_lt_zero i)⟩, fun a n c e => by cases e; exact Nat.le_refl _⟩
theorem secs_none (w : World) : SecsAt w (.slice none 0 0) [] := ⟨⟨none, 0, rfl, by simp, fun i hi => absurd hi (Nat.not_lt_zero i)⟩, fun a n c e => by cases e; exact Nat.le_refl _⟩
set_option maxHeartbeats 8000000 in
theorem shFind_any (s : Sht) (vd vf : Value) (id : Int) (w : World) (hd : IntsAt w vd s.don) (hf : FeatsAt w vf s.feats) {f : Feat} {k : Int} (hr : findR s id = (f, k)) :
    Calls Tryz.prog 41 #[shtV s vd vf, .int .i64 id] w (FindE f k w) := by
  obtain ⟨ad, cd, rfl, g1, _, _⟩ := Lists.form hd
  obtain ⟨af, cf, rfl, g2, _, _⟩ := hf.form
  obtain ⟨u, hu⟩ : ∃ z, decide (ShtOk s) = z := ⟨_, rfl⟩
  have HU := Lib.hid hu
  have HR := Lib.hid hr
  have HD := Lib.hid hd
  have HF := Lib.hid hf
  clear hd hf g1 g2 hr hu
  go_enter Tryz.func41, Tryz.ntmps41
  go_wp2_with fail
  refine calls_named fun W hW => ?_
  obtain ⟨p1, p2, hB⟩ := box2 hW
  clear hW
  (with_reducible refine (shValid_any s _ _ _ (intsL HD.out hB) (HF.out.later hB) HU.out).mono ?_)
  rintro e w1 ⟨rfl, hb1⟩
  have hB1 := below_step hB hb1
  have r1 := block_later hb1 p1
  have r2 := block_later hb1 p2
  clear p1 p2 hb1 hB
  cases u
  · have E : Hid (f = noFeat ∧ k = 1) := Lib.hid (by
      have := HR.out
      unfold findR at this
      rw [if_neg (of_decide_eq_false HU.out)] at this
      cases this
      exact ⟨rfl, rfl⟩)
    obtain ⟨rfl, rfl⟩ := E.out
    clear HR r1
    have f2 := free_block r2
    have z2 := cell_block r2
    have Q2 := Lib.hid r2
    go_wp2_with fail
    have c9 := cell_block (block_set (i := 8) (block_set (i := 7) (block_set (i := 6) (block_set (i := 5) (block_set (i := 4) (block_set (i := 3) (block_set (i := 2) (block_set (i := 1) (block_set (i := 0) Q2.out (.int .i64 0)) (.int .i64 0)) (.int .i64 0)) (.int .i64 0)) (.int .i64 0)) (.slice none 0 0)) (.int .i64 0)) (.int .i64 0)) (.slice none 0 0))
    exact bodyPost_ret (v := .tuple #[featV noFeat (.slice none 0 0) (.slice none 0 0), .int .i64 1]) (by simp [results, Tryz.results41, go_sem, c9, noFeat]) rfl ⟨.slice none 0 0, .slice none 0 0, rfl, pts_none _, secs_none _, (((((((((hB1.setCell (by dsimp only; omega) _).setCell (by dsimp only; omega) _).setCell (by dsimp only; omega) _).setCell (by dsimp only; omega) _).setCell (by dsimp only; omega) _).setCell (by dsimp only; omega) _).setCell (by dsimp only; omega) _).setCell (by dsimp only; omega) _).setCell (by dsimp only; omega) _)⟩
  have OK := Lib.hid (of_decide_eq_true HU.out)
  have FS : Hid (FeatsOk s.feats) := Lib.hid OK.out.2.2.2.2.2.2.2
  have HR2 : Hid ((match look s.feats id with | some f => (f, (0 : Int)) | none => (noFeat, 4)) = (f, k)) := Lib.hid (by
    have := HR.out
    unfold findR at this
    rw [if_pos OK.out] at this
    exact this)
  clear HR HU
  have c_ := cell_block r1
  by_cases g : id < 1
  · have d1 : decide (id < 1) = true := decide_eq_true g
    have E : Hid (f = noFeat ∧ k = 4) := Lib.hid (by
      have hl : look s.feats id = none := by
        unfold look
        rw [List.find?_eq_none]
        intro x hx
        have h1 := (featsOk_mem FS.out x hx).1.1
        simp only [decide_eq_true_eq]
        omega
      have := HR2.out
      rw [hl] at this
      cases this
      exact ⟨rfl, rfl⟩)
    obtain ⟨rfl, rfl⟩ := E.out
    clear HR2
    have f2 := free_block r2
    have z2 := cell_block r2
    have Q2 := Lib.hid r2
    go_wp2_with fail
    have c9 := cell_block (block_set (i := 8) (block_set (i := 7) (block_set (i := 6) (block_set (i := 5) (block_set (i := 4) (block_set (i := 3) (block_set (i := 2) (block_set (i := 1) (block_set (i := 0) Q2.out (.int .i64 0)) (.int .i64 0)) (.int .i64 0)) (.int .i64 0)) (.int .i64 0)) (.slice none 0 0)) (.int .i64 0)) (.int .i64 0)) (.slice none 0 0))
    exact bodyPost_ret (v := .tuple #[featV noFeat (.slice none 0 0) (.slice none 0 0), .int .i64 4]) (by simp [results, Tryz.results41, go_sem, c9, noFeat]) rfl ⟨.slice none 0 0, .slice none 0 0, rfl, pts_none _, secs_none _, (((((((((hB1.setCell (by dsimp only; omega) _).setCell (by dsimp only; omega) _).setCell (by dsimp only; omega) _).setCell (by dsimp only; omega) _).setCell (by dsimp only; omega) _).setCell (by dsimp only; omega) _).setCell (by dsimp only; omega) _).setCell (by dsimp only; omega) _).setCell (by dsimp only; omega) _)⟩
  have d1 : decide (id < 1) = false := decide_eq_false g
  have b1 := Int.not_lt.1 g
  clear g
  by_cases g : 100000 < id
  · have d2 : decide (100000 < id) = true := decide_eq_true g
    have E : Hid (f = noFeat ∧ k = 4) := Lib.hid (by
      have hl : look s.feats id = none := by
        unfold look
        rw [List.find?_eq_none]
        intro x hx
        have h1 := (featsOk_mem FS.out x hx).1.1
        simp only [decide_eq_true_eq]
        omega
      have := HR2.out
      rw [hl] at this
      cases this
      exact ⟨rfl, rfl⟩)
    obtain ⟨rfl, rfl⟩ := E.out
    clear HR2
    have f2 := free_block r2
    have z2 := cell_block r2
    have Q2 := Lib.hid r2
    go_wp2_with fail
    have c9 := cell_block (block_set (i := 8) (block_set (i := 7) (block_set (i := 6) (block_set (i := 5) (block_set (i := 4) (block_set (i := 3) (block_set (i := 2) (block_set (i := 1) (block_set (i := 0) Q2.out (.int .i64 0)) (.int .i64 0)) (.int .i64 0)) (.int .i64 0)) (.int .i64 0)) (.slice none 0 0)) (.int .i64 0)) (.int .i64 0)) (.slice none 0 0))
    exact bodyPost_ret (v := .tuple #[featV noFeat (.slice none 0 0) (.slice none 0 0), .int .i64 4]) (by simp [results, Tryz.results41, go_sem, c9, noFeat]) rfl ⟨.slice none 0 0, .slice none 0 0, rfl, pts_none _, secs_none _, (((((((((hB1.setCell (by dsimp only; omega) _).setCell (by dsimp only; omega) _).setCell (by dsimp only; omega) _).setCell (by dsimp only; omega) _).setCell (by dsimp only; omega) _).setCell (by dsimp only; omega) _).setCell (by dsimp only; omega) _).setCell (by dsimp only; omega) _).setCell (by dsimp only; omega) _)⟩
  have d2 : decide (100000 < id) = false := decide_eq_false g
  have b2 := Int.not_lt.1 g
  clear g
  go_wp2_with fail
  (with_reducible refine (shfind_any s _ _ id _ (intsL HD.out hB1) (HF.out.later hB1) FS.out (by omega) (by omega)).mono ?_)
  rintro e w2 ⟨i, b, rfl, k1, k2, hb2⟩
  have hB2 := below_step hB1 hb2
  have q1 := block_later hb2 r1
  have q2 := block_later hb2 r2
  clear r1 r2 c_ hb2
  cases b
  · have E : Hid (f = noFeat ∧ k = 4) := Lib.hid (by
      have := HR2.out
      rw [k2 rfl] at this
      cases this
      exact ⟨rfl, rfl⟩)
    obtain ⟨rfl, rfl⟩ := E.out
    clear HR2 k1 k2 q1
    have f2 := free_block q2
    have z2 := cell_block q2
    have Q2 := Lib.hid q2
    go_wp2_with fail
    have c9 := cell_block (block_set (i := 8) (block_set (i := 7) (block_set (i := 6) (block_set (i := 5) (block_set (i := 4) (block_set (i := 3) (block_set (i := 2) (block_set (i := 1) (block_set (i := 0) Q2.out (.int .i64 0)) (.int .i64 0)) (.int .i64 0)) (.int .i64 0)) (.int .i64 0)) (.slice none 0 0)) (.int .i64 0)) (.int .i64 0)) (.slice none 0 0))
    exact bodyPost_ret (v := .tuple #[featV noFeat (.slice none 0 0) (.slice none 0 0), .int .i64 4]) (by simp [results, Tryz.results41, go_sem, c9, noFeat]) rfl ⟨.slice none 0 0, .slice none 0 0, rfl, pts_none _, secs_none _, (((((((((hB2.setCell (by dsimp only; omega) _).setCell (by dsimp only; omega) _).setCell (by dsimp only; omega) _).setCell (by dsimp only; omega) _).setCell (by dsimp only; omega) _).setCell (by dsimp only; omega) _).setCell (by dsimp only; omega) _).setCell (by dsimp only; omega) _).setCell (by dsimp only; omega) _)⟩
  obtain ⟨hi, he⟩ := k1 rfl
  have E : Hid (f = s.feats.getD i noFeat ∧ k = 0) := Lib.hid (by
    have hl : look s.feats id = some (s.feats.getD i noFeat) := by
      rw [← he]
      exact look_mem (idsUp_of FS.out) (getD_mem hi)
    have := HR2.out
    rw [hl] at this
    cases this
    exact ⟨rfl, rfl⟩)
  have FO := Lib.hid (featsOk_mem FS.out _ (getD_mem (d := noFeat) hi))
  have FW := Lib.hid (fewEls_of FS.out _ (getD_mem (d := noFeat) hi))
  obtain ⟨g, oo, va, vs, e0, fc⟩ := HF.out.row hi
  obtain ⟨hf1, rfl⟩ := E.out
  rw [← hf1] at fc FO FW
  clear k1 k2 HR2 hf1 E he
  subst e0
  obtain ⟨c0, c1, c2, c3, c4, c5, c6, c7, c8, PA, SA⟩ := fc
  obtain ⟨aa, ca, rfl, _, _, _⟩ := Lists.form PA
  obtain ⟨ab, cb, rfl, _, _, _⟩ := Lists.form SA
  have PA' := Lib.hid PA
  have SA' := Lib.hid SA
  have n0 := cell_later hB2 c0
  have n1 := cell_later hB2 c1
  have n2 := cell_later hB2 c2
  have n3 := cell_later hB2 c3
  have n4 := cell_later hB2 c4
  have n5 := cell_later hB2 c5
  have n6 := cell_later hB2 c6
  have n7 := cell_later hB2 c7
  have n8 := cell_later hB2 c8
  have c_ := cell_block q1
  clear PA SA c0 c1 c2 c3 c4 c5 c6 c7 c8
  go_wp2_with fail
  refine wp_named fun W hW => ?_
  obtain ⟨p8, hb8⟩ := box1 hW
  clear hW n0 n1 n2 n3 n4 n5 n6 n7 n8 c_ q1
  have hBW := below_step hB2 hb8
  have p4 := block_later hb8 q2
  have hx4 := lt_block q2
  obtain ⟨b8, hb8e⟩ : ∃ b, w2.heap.size = b := ⟨_, rfl⟩
  rw [hb8e] at p8 hx4
  have hlt8 := lt_block p8
  have hw2 : w.heap.size ≤ b8 := by omega
  clear q2 hb8
  have hdw : Below W.heap.size W W.drew := (Below.refl _ _).drew
  have q8 := block_later hdw p8
  have q4 := block_later hdw p4
  have hS := below_step hBW hdw
  rw [hb8e]
  refine wp_region_planS (Below w.heap.size w) (.take 0 (.take 2 (.two 0 (.two 0 (.only 0 (.take 1 (.only 0 (.only 0 (.take 0 (.only 0 .done)))))) 1 (.only 0 (.take 1 (.only 0 (.only 0 (.take 0 (.only 0 .done))))))) 2 (.only 0 (.only 0 (.take 1 (.only 0 (.only 0 (.take 0 (.only 0 .done)))))))))) (by kernel_rfl) (by kernel_rfl) hS (fun hP => ?_)
  generalize hdr : W.drew = v0 at hP q8 q4 ⊢
  clear hdr hS hdw p8 p4 hBW hb8e
  (refine wsPlan_take rfl (fun K hK => ?_); replace hK := Lib.hid hK; go_simp; first | (refine hK.out _ ?_; clear hK K) | (apply Exists.intro; refine ⟨fun w' hw => ?_, hK.out _ ?_⟩; (first | with_reducible exact rfl | skip); clear hK K))
  (refine wsPlan_take rfl (fun K hK => ?_); replace hK := Lib.hid hK; go_simp; first | (refine hK.out _ ?_; clear hK K) | (apply Exists.intro; refine ⟨fun w' hw => ?_, hK.out _ ?_⟩; (first | with_reducible exact rfl | skip); clear hK K))
  refine wsPlan_two ?_ ?_
  · skip
    have k8 := cell_block q8
    (refine wsPlan_only rfl (fun K hK => ?_); replace hK := Lib.hid hK; go_simp; refine hK.out _ _ hP (fun hP => ?_); clear hK K k8)
    refine wsPlan_two ?_ ?_
    · skip
      (refine wsPlan_only rfl (fun K hK => ?_); replace hK := Lib.hid hK; go_simp; go_at_call 127; (with_reducible refine (clPts_any f.area _ _ (ptsL PA'.out hP) (by have := FW.out.1; omega)).mono ?_); rintro z v1 ⟨ad1, c1, rfl, hL1, hg1, hb1⟩; have hP1 := below_step hP hb1; refine hK.out _ _ hP1 (fun hP => ?_); clear hK K hP1)
      have q8_1 := block_later hb1 q8
      have q4_1 := block_later hb1 q4
      have hl1 := lt_block q8
      have hm1 := lt_block q4
      have hf1 : ∀ g o, ad1 = some ⟨g, o, none⟩ → g ≠ b8 := fun g o e => by have := hg1 g o e; omega
      have he1 : ∀ g o, ad1 = some ⟨g, o, none⟩ → g ≠ w.heap.size + 1 := fun g o e => by have := hg1 g o e; omega
      have k8 := cell_block q8_1
      (refine wsPlan_only rfl (fun K hK => ?_); replace hK := Lib.hid hK; go_simp; refine hK.out _ _ hP (fun hP => ?_); clear hK K k8)
      (refine wsPlan_take rfl (fun K hK => ?_); replace hK := Lib.hid hK; go_simp; first | (refine hK.out _ ?_; clear hK K) | (apply Exists.intro; refine ⟨fun w' hw => ?_, hK.out _ ?_⟩; (first | with_reducible exact rfl | skip); clear hK K))
      (refine wsPlan_only rfl (fun K hK => ?_); replace hK := Lib.hid hK; go_simp; go_at_call 128; (with_reducible refine (clSecs_any f.secs _ _ (secsL SA'.out hP) (by have := FW.out.2; omega)).mono ?_); rintro z v2 ⟨ad2, c2, rfl, hL2, hg2, hb2⟩; have hP1 := below_step hP hb2; refine hK.out _ _ hP1 (fun hP => ?_); clear hK K hP1)
      have q8_2 := block_later hb2 q8_1
      have q4_2 := block_later hb2 q4_1
      have hl2 := lt_block q8_1
      have hm2 := lt_block q4_1
      have hL1_2 := ptsL hL1 hb2
      have hf2 : ∀ g o, ad2 = some ⟨g, o, none⟩ → g ≠ b8 := fun g o e => by have := hg2 g o e; omega
      have he2 : ∀ g o, ad2 = some ⟨g, o, none⟩ → g ≠ w.heap.size + 1 := fun g o e => by have := hg2 g o e; omega
      have f8 := free_block q8_2
      have k8 := cell_block q8_2
      (refine wsPlan_only rfl (fun K hK => ?_); replace hK := Lib.hid hK; go_simp; refine hK.out _ _ (by with_reducible exact hP.setCell (p := ⟨b8, 5, none⟩) hw2 _) (fun hP => ?_); clear hK K f8 k8)
      have q8_3 := block_set (i := 5) q8_2 (.slice ad1 f.area.length c1)
      have q4_3 := block_far (a := ⟨b8, 5, none⟩) q4_2 (by dsimp only; omega) (.slice ad1 f.area.length c1)
      have hL1_2_3 := pts_far (i := 5) (u := .slice ad1 f.area.length c1) hL1_2 hf1
      have hL2_3 := secs_far (i := 5) (u := .slice ad1 f.area.length c1) hL2 hf2
      generalize hw3 : World.setCell v2 ⟨b8, 5, none⟩ (.slice ad1 f.area.length c1) = v3 at hP q8_3 q4_3 hL1_2_3 hL2_3 ⊢
      clear hw3
      (refine wsPlan_take rfl (fun K hK => ?_); replace hK := Lib.hid hK; go_simp; first | (refine hK.out _ ?_; clear hK K) | (apply Exists.intro; refine ⟨fun w' hw => ?_, hK.out _ ?_⟩; (first | with_reducible exact rfl | skip); clear hK K))
      have f8 := free_block q8_3
      have k8 := cell_block q8_3
      (refine wsPlan_only rfl (fun K hK => ?_); replace hK := Lib.hid hK; go_simp; refine hK.out _ _ (by with_reducible exact hP.setCell (p := ⟨b8, 8, none⟩) hw2 _) (fun hP => ?_); clear hK K f8 k8)
      have q8_4 := block_set (i := 8) q8_3 (.slice ad2 f.secs.length c2)
      have q4_4 := block_far (a := ⟨b8, 8, none⟩) q4_3 (by dsimp only; omega) (.slice ad2 f.secs.length c2)
      have hL1_2_3_4 := pts_far (i := 8) (u := .slice ad2 f.secs.length c2) hL1_2_3 hf1
      have hL2_3_4 := secs_far (i := 8) (u := .slice ad2 f.secs.length c2) hL2_3 hf2
      generalize hw4 : World.setCell v3 ⟨b8, 8, none⟩ (.slice ad2 f.secs.length c2) = v4 at hP q8_4 q4_4 hL1_2_3_4 hL2_3_4 ⊢
      clear hw4
      refine wsPlan_done ?_
      simp only [Array.setIfInBounds, List.size_toArray, List.length_cons, List.length_nil, Nat.reduceAdd, Nat.reduceLT, dite_true, List.set_toArray, List.set_cons_succ, List.set_cons_zero] at q8_4
      have k8 := cell_block q8_4
      have f4 := free_block q4_4
      have k4 := cell_block q4_4
      have Q4 := Lib.hid q4_4
      have LP := Lib.hid hL1_2_3_4
      have LS := Lib.hid hL2_3_4
      clear q4_4 q8_4
      go_wp2_with fail
      have k9 := cell_block (block_set (i := 8) (block_set (i := 7) (block_set (i := 6) (block_set (i := 5) (block_set (i := 4) (block_set (i := 3) (block_set (i := 2) (block_set (i := 1) (block_set (i := 0) Q4.out (.int .i64 f.id)) (.int .i64 f.kind)) (.int .i64 f.x)) (.int .i64 f.y)) (.int .i64 f.rad)) (.slice ad1 f.area.length c1)) (.int .i64 f.dep)) (.int .i64 f.sym)) (.slice ad2 f.secs.length c2))
      exact bodyPost_ret (v := .tuple #[featV f (.slice ad1 f.area.length c1) (.slice ad2 f.secs.length c2), .int .i64 0]) (by simp [results, Tryz.results41, go_sem, k9]) rfl ⟨.slice ad1 f.area.length c1, .slice ad2 f.secs.length c2, rfl, (pts_far (pts_far (pts_far (pts_far (pts_far (pts_far (pts_far (pts_far (pts_far LP.out he1) he1) he1) he1) he1) he1) he1) he1) he1), (secs_far (secs_far (secs_far (secs_far (secs_far (secs_far (secs_far (secs_far (secs_far LS.out he2) he2) he2) he2) he2) he2) he2) he2) he2), (((((((((hP.setCell (by dsimp only; omega) _).setCell (by dsimp only; omega) _).setCell (by dsimp only; omega) _).setCell (by dsimp only; omega) _).setCell (by dsimp only; omega) _).setCell (by dsimp only; omega) _).setCell (by dsimp only; omega) _).setCell (by dsimp only; omega) _).setCell (by dsimp only; omega) _)⟩
    · skip
      have k8 := cell_block q8
      (refine wsPlan_only rfl (fun K hK => ?_); replace hK := Lib.hid hK; go_simp; refine hK.out _ _ hP (fun hP => ?_); clear hK K k8)
      (refine wsPlan_only rfl (fun K hK => ?_); replace hK := Lib.hid hK; go_simp; go_at_call 127; (with_reducible refine (clPts_any f.area _ _ (ptsL PA'.out hP) (by have := FW.out.1; omega)).mono ?_); rintro z v5 ⟨ad5, c5, rfl, hL5, hg5, hb5⟩; have hP1 := below_step hP hb5; refine hK.out _ _ hP1 (fun hP => ?_); clear hK K hP1)
      have q8_5 := block_later hb5 q8
      have q4_5 := block_later hb5 q4
      have hl5 := lt_block q8
      have hm5 := lt_block q4
      have hf5 : ∀ g o, ad5 = some ⟨g, o, none⟩ → g ≠ b8 := fun g o e => by have := hg5 g o e; omega
      have he5 : ∀ g o, ad5 = some ⟨g, o, none⟩ → g ≠ w.heap.size + 1 := fun g o e => by have := hg5 g o e; omega
      (refine wsPlan_take rfl (fun K hK => ?_); replace hK := Lib.hid hK; go_simp; first | (refine hK.out _ ?_; clear hK K) | (apply Exists.intro; refine ⟨fun w' hw => ?_, hK.out _ ?_⟩; (first | with_reducible exact rfl | skip); clear hK K))
      (refine wsPlan_only rfl (fun K hK => ?_); replace hK := Lib.hid hK; go_simp; go_at_call 128; (with_reducible refine (clSecs_any f.secs _ _ (secsL SA'.out hP) (by have := FW.out.2; omega)).mono ?_); rintro z v6 ⟨ad6, c6, rfl, hL6, hg6, hb6⟩; have hP1 := below_step hP hb6; refine hK.out _ _ hP1 (fun hP => ?_); clear hK K hP1)
      have q8_6 := block_later hb6 q8_5
      have q4_6 := block_later hb6 q4_5
      have hl6 := lt_block q8_5
      have hm6 := lt_block q4_5
      have hL5_6 := ptsL hL5 hb6
      have hf6 : ∀ g o, ad6 = some ⟨g, o, none⟩ → g ≠ b8 := fun g o e => by have := hg6 g o e; omega
      have he6 : ∀ g o, ad6 = some ⟨g, o, none⟩ → g ≠ w.heap.size + 1 := fun g o e => by have := hg6 g o e; omega
      have f8 := free_block q8_6
      have k8 := cell_block q8_6
      (refine wsPlan_only rfl (fun K hK => ?_); replace hK := Lib.hid hK; go_simp; refine hK.out _ _ (by with_reducible exact hP.setCell (p := ⟨b8, 5, none⟩) hw2 _) (fun hP => ?_); clear hK K f8 k8)
      have q8_7 := block_set (i := 5) q8_6 (.slice ad5 f.area.length c5)
      have q4_7 := block_far (a := ⟨b8, 5, none⟩) q4_6 (by dsimp only; omega) (.slice ad5 f.area.length c5)
      have hL5_6_7 := pts_far (i := 5) (u := .slice ad5 f.area.length c5) hL5_6 hf5
      have hL6_7 := secs_far (i := 5) (u := .slice ad5 f.area.length c5) hL6 hf6
      generalize hw7 : World.setCell v6 ⟨b8, 5, none⟩ (.slice ad5 f.area.length c5) = v7 at hP q8_7 q4_7 hL5_6_7 hL6_7 ⊢
      clear hw7
      (refine wsPlan_take rfl (fun K hK => ?_); replace hK := Lib.hid hK; go_simp; first | (refine hK.out _ ?_; clear hK K) | (apply Exists.intro; refine ⟨fun w' hw => ?_, hK.out _ ?_⟩; (first | with_reducible exact rfl | skip); clear hK K))
      have f8 := free_block q8_7
      have k8 := cell_block q8_7
      (refine wsPlan_only rfl (fun K hK => ?_); replace hK := Lib.hid hK; go_simp; refine hK.out _ _ (by with_reducible exact hP.setCell (p := ⟨b8, 8, none⟩) hw2 _) (fun hP => ?_); clear hK K f8 k8)
      have q8_8 := block_set (i := 8) q8_7 (.slice ad6 f.secs.length c6)
      have q4_8 := block_far (a := ⟨b8, 8, none⟩) q4_7 (by dsimp only; omega) (.slice ad6 f.secs.length c6)
      have hL5_6_7_8 := pts_far (i := 8) (u := .slice ad6 f.secs.length c6) hL5_6_7 hf5
      have hL6_7_8 := secs_far (i := 8) (u := .slice ad6 f.secs.length c6) hL6_7 hf6
      generalize hw8 : World.setCell v7 ⟨b8, 8, none⟩ (.slice ad6 f.secs.length c6) = v8 at hP q8_8 q4_8 hL5_6_7_8 hL6_7_8 ⊢
      clear hw8
      refine wsPlan_done ?_
      simp only [Array.setIfInBounds, List.size_toArray, List.length_cons, List.length_nil, Nat.reduceAdd, Nat.reduceLT, dite_true, List.set_toArray, List.set_cons_succ, List.set_cons_zero] at q8_8
      have k8 := cell_block q8_8
      have f4 := free_block q4_8
      have k4 := cell_block q4_8
      have Q4 := Lib.hid q4_8
      have LP := Lib.hid hL5_6_7_8
      have LS := Lib.hid hL6_7_8
      clear q4_8 q8_8
      go_wp2_with fail
      have k9 := cell_block (block_set (i := 8) (block_set (i := 7) (block_set (i := 6) (block_set (i := 5) (block_set (i := 4) (block_set (i := 3) (block_set (i := 2) (block_set (i := 1) (block_set (i := 0) Q4.out (.int .i64 f.id)) (.int .i64 f.kind)) (.int .i64 f.x)) (.int .i64 f.y)) (.int .i64 f.rad)) (.slice ad5 f.area.length c5)) (.int .i64 f.dep)) (.int .i64 f.sym)) (.slice ad6 f.secs.length c6))
      exact bodyPost_ret (v := .tuple #[featV f (.slice ad5 f.area.length c5) (.slice ad6 f.secs.length c6), .int .i64 0]) (by simp [results, Tryz.results41, go_sem, k9]) rfl ⟨.slice ad5 f.area.length c5, .slice ad6 f.secs.length c6, rfl, (pts_far (pts_far (pts_far (pts_far (pts_far (pts_far (pts_far (pts_far (pts_far LP.out he5) he5) he5) he5) he5) he5) he5) he5) he5), (secs_far (secs_far (secs_far (secs_far (secs_far (secs_far (secs_far (secs_far (secs_far LS.out he6) he6) he6) he6) he6) he6) he6) he6) he6), (((((((((hP.setCell (by dsimp only; omega) _).setCell (by dsimp only; omega) _).setCell (by dsimp only; omega) _).setCell (by dsimp only; omega) _).setCell (by dsimp only; omega) _).setCell (by dsimp only; omega) _).setCell (by dsimp only; omega) _).setCell (by dsimp only; omega) _).setCell (by dsimp only; omega) _)⟩
  · skip
    have k8 := cell_block q8
    (refine wsPlan_only rfl (fun K hK => ?_); replace hK := Lib.hid hK; go_simp; refine hK.out _ _ hP (fun hP => ?_); clear hK K k8)
    have k8 := cell_block q8
    (refine wsPlan_only rfl (fun K hK => ?_); replace hK := Lib.hid hK; go_simp; refine hK.out _ _ hP (fun hP => ?_); clear hK K k8)
    (refine wsPlan_only rfl (fun K hK => ?_); replace hK := Lib.hid hK; go_simp; go_at_call 127; (with_reducible refine (clPts_any f.area _ _ (ptsL PA'.out hP) (by have := FW.out.1; omega)).mono ?_); rintro z v9 ⟨ad9, c9, rfl, hL9, hg9, hb9⟩; have hP1 := below_step hP hb9; refine hK.out _ _ hP1 (fun hP => ?_); clear hK K hP1)
    have q8_9 := block_later hb9 q8
    have q4_9 := block_later hb9 q4
    have hl9 := lt_block q8
    have hm9 := lt_block q4
    have hf9 : ∀ g o, ad9 = some ⟨g, o, none⟩ → g ≠ b8 := fun g o e => by have := hg9 g o e; omega
    have he9 : ∀ g o, ad9 = some ⟨g, o, none⟩ → g ≠ w.heap.size + 1 := fun g o e => by have := hg9 g o e; omega
    (refine wsPlan_take rfl (fun K hK => ?_); replace hK := Lib.hid hK; go_simp; first | (refine hK.out _ ?_; clear hK K) | (apply Exists.intro; refine ⟨fun w' hw => ?_, hK.out _ ?_⟩; (first | with_reducible exact rfl | skip); clear hK K))
    (refine wsPlan_only rfl (fun K hK => ?_); replace hK := Lib.hid hK; go_simp; go_at_call 128; (with_reducible refine (clSecs_any f.secs _ _ (secsL SA'.out hP) (by have := FW.out.2; omega)).mono ?_); rintro z v10 ⟨ad10, c10, rfl, hL10, hg10, hb10⟩; have hP1 := below_step hP hb10; refine hK.out _ _ hP1 (fun hP => ?_); clear hK K hP1)
    have q8_10 := block_later hb10 q8_9
    have q4_10 := block_later hb10 q4_9
    have hl10 := lt_block q8_9
    have hm10 := lt_block q4_9
    have hL9_10 := ptsL hL9 hb10
    have hf10 : ∀ g o, ad10 = some ⟨g, o, none⟩ → g ≠ b8 := fun g o e => by have := hg10 g o e; omega
    have he10 : ∀ g o, ad10 = some ⟨g, o, none⟩ → g ≠ w.heap.size + 1 := fun g o e => by have := hg10 g o e; omega
    have f8 := free_block q8_10
    have k8 := cell_block q8_10
    (refine wsPlan_only rfl (fun K hK => ?_); replace hK := Lib.hid hK; go_simp; refine hK.out _ _ (by with_reducible exact hP.setCell (p := ⟨b8, 5, none⟩) hw2 _) (fun hP => ?_); clear hK K f8 k8)
    have q8_11 := block_set (i := 5) q8_10 (.slice ad9 f.area.length c9)
    have q4_11 := block_far (a := ⟨b8, 5, none⟩) q4_10 (by dsimp only; omega) (.slice ad9 f.area.length c9)
    have hL9_10_11 := pts_far (i := 5) (u := .slice ad9 f.area.length c9) hL9_10 hf9
    have hL10_11 := secs_far (i := 5) (u := .slice ad9 f.area.length c9) hL10 hf10
    generalize hw11 : World.setCell v10 ⟨b8, 5, none⟩ (.slice ad9 f.area.length c9) = v11 at hP q8_11 q4_11 hL9_10_11 hL10_11 ⊢
    clear hw11
    (refine wsPlan_take rfl (fun K hK => ?_); replace hK := Lib.hid hK; go_simp; first | (refine hK.out _ ?_; clear hK K) | (apply Exists.intro; refine ⟨fun w' hw => ?_, hK.out _ ?_⟩; (first | with_reducible exact rfl | skip); clear hK K))
    have f8 := free_block q8_11
    have k8 := cell_block q8_11
    (refine wsPlan_only rfl (fun K hK => ?_); replace hK := Lib.hid hK; go_simp; refine hK.out _ _ (by with_reducible exact hP.setCell (p := ⟨b8, 8, none⟩) hw2 _) (fun hP => ?_); clear hK K f8 k8)
    have q8_12 := block_set (i := 8) q8_11 (.slice ad10 f.secs.length c10)
    have q4_12 := block_far (a := ⟨b8, 8, none⟩) q4_11 (by dsimp only; omega) (.slice ad10 f.secs.length c10)
    have hL9_10_11_12 := pts_far (i := 8) (u := .slice ad10 f.secs.length c10) hL9_10_11 hf9
    have hL10_11_12 := secs_far (i := 8) (u := .slice ad10 f.secs.length c10) hL10_11 hf10
    generalize hw12 : World.setCell v11 ⟨b8, 8, none⟩ (.slice ad10 f.secs.length c10) = v12 at hP q8_12 q4_12 hL9_10_11_12 hL10_11_12 ⊢
    clear hw12
    refine wsPlan_done ?_
    simp only [Array.setIfInBounds, List.size_toArray, List.length_cons, List.length_nil, Nat.reduceAdd, Nat.reduceLT, dite_true, List.set_toArray, List.set_cons_succ, List.set_cons_zero] at q8_12
    have k8 := cell_block q8_12
    have f4 := free_block q4_12
    have k4 := cell_block q4_12
    have Q4 := Lib.hid q4_12
    have LP := Lib.hid hL9_10_11_12
    have LS := Lib.hid hL10_11_12
    clear q4_12 q8_12
    go_wp2_with fail
    have k9 := cell_block (block_set (i := 8) (block_set (i := 7) (block_set (i := 6) (block_set (i := 5) (block_set (i := 4) (block_set (i := 3) (block_set (i := 2) (block_set (i := 1) (block_set (i := 0) Q4.out (.int .i64 f.id)) (.int .i64 f.kind)) (.int .i64 f.x)) (.int .i64 f.y)) (.int .i64 f.rad)) (.slice ad9 f.area.length c9)) (.int .i64 f.dep)) (.int .i64 f.sym)) (.slice ad10 f.secs.length c10))
    exact bodyPost_ret (v := .tuple #[featV f (.slice ad9 f.area.length c9) (.slice ad10 f.secs.length c10), .int .i64 0]) (by simp [results, Tryz.results41, go_sem, k9]) rfl ⟨.slice ad9 f.area.length c9, .slice ad10 f.secs.length c10, rfl, (pts_far (pts_far (pts_far (pts_far (pts_far (pts_far (pts_far (pts_far (pts_far LP.out he9) he9) he9) he9) he9) he9) he9) he9) he9), (secs_far (secs_far (secs_far (secs_far (secs_far (secs_far (secs_far (secs_far (secs_far LS.out he10) he10) he10) he10) he10) he10) he10) he10) he10), (((((((((hP.setCell (by dsimp only; omega) _).setCell (by dsimp only; omega) _).setCell (by dsimp only; omega) _).setCell (by dsimp only; omega) _).setCell (by dsimp only; omega) _).setCell (by dsimp only; omega) _).setCell (by dsimp only; omega) _).setCell (by dsimp only; omega) _).setCell (by dsimp only; omega) _)⟩
set_option maxHeartbeats 4000000 in
theorem q14Find_any (s : Sht) (vd vf : Value) (id : Int) (w : World) (hd : IntsAt w vd s.don) (hf : FeatsAt w vf s.feats) {f : Feat} {k : Int} (hr : findR s id = (f, k)) :
    Calls Tryz.prog 42 #[shtV s vd vf, .int .i64 id] w (FindE f k w) := by
  obtain ⟨ad, cd, rfl, g1, _, _⟩ := Lists.form hd
  obtain ⟨af, cf, rfl, g2, _, _⟩ := hf.form
  obtain ⟨u, hu⟩ : ∃ z, decide (ShtOk s) = z := ⟨_, rfl⟩
  have HU := Lib.hid hu
  have HR := Lib.hid hr
  have HD := Lib.hid hd
  have HF := Lib.hid hf
  clear hd hf g1 g2 hr hu
  go_enter Tryz.func42, Tryz.ntmps42
  go_wp2_with fail
  refine calls_named fun W hW => ?_
  obtain ⟨p1, p2, hB⟩ := box2 hW
  clear hW
  (with_reducible refine (q14Valid_any s _ _ _ (intsL HD.out hB) (HF.out.later hB) HU.out).mono ?_)
  rintro e w1 ⟨rfl, hb1⟩
  have hB1 := below_step hB hb1
  have r1 := block_later hb1 p1
  have r2 := block_later hb1 p2
  clear p1 p2 hb1 hB
  cases u
  · have E : Hid (f = noFeat ∧ k = 1) := Lib.hid (by
      have := HR.out
      unfold findR at this
      rw [if_neg (of_decide_eq_false HU.out)] at this
      cases this
      exact ⟨rfl, rfl⟩)
    obtain ⟨rfl, rfl⟩ := E.out
    clear HR r1
    have f2 := free_block r2
    have z2 := cell_block r2
    have Q2 := Lib.hid r2
    go_wp2_with fail
    have c9 := cell_block (block_set (i := 8) (block_set (i := 7) (block_set (i := 6) (block_set (i := 5) (block_set (i := 4) (block_set (i := 3) (block_set (i := 2) (block_set (i := 1) (block_set (i := 0) Q2.out (.int .i64 0)) (.int .i64 0)) (.int .i64 0)) (.int .i64 0)) (.int .i64 0)) (.slice none 0 0)) (.int .i64 0)) (.int .i64 0)) (.slice none 0 0))
    exact bodyPost_ret (v := .tuple #[featV noFeat (.slice none 0 0) (.slice none 0 0), .int .i64 1]) (by simp [results, Tryz.results42, go_sem, c9, noFeat]) rfl ⟨.slice none 0 0, .slice none 0 0, rfl, pts_none _, secs_none _, (((((((((hB1.setCell (by dsimp only; omega) _).setCell (by dsimp only; omega) _).setCell (by dsimp only; omega) _).setCell (by dsimp only; omega) _).setCell (by dsimp only; omega) _).setCell (by dsimp only; omega) _).setCell (by dsimp only; omega) _).setCell (by dsimp only; omega) _).setCell (by dsimp only; omega) _)⟩
  have OK := Lib.hid (of_decide_eq_true HU.out)
  have FS : Hid (FeatsOk s.feats) := Lib.hid OK.out.2.2.2.2.2.2.2
  have HR2 : Hid ((match look s.feats id with | some f => (f, (0 : Int)) | none => (noFeat, 4)) = (f, k)) := Lib.hid (by
    have := HR.out
    unfold findR at this
    rw [if_pos OK.out] at this
    exact this)
  clear HR HU
  obtain ⟨x, hx⟩ : ∃ x, fstI (fun i => decide ((s.feats.getD i noFeat).id = id)) s.feats.length = x := ⟨_, rfl⟩
  have HX := Lib.hid hx
  clear hx
  have c_ := cell_block r1
  go_wp2_with fail
  (with_reducible refine (q14Index_any s.feats _ id _ (HF.out.later hB1) HX.out).mono ?_)
  rintro e w2 ⟨rfl, hb2⟩
  have hB2 := below_step hB1 hb2
  have q1 := block_later hb2 r1
  have q2 := block_later hb2 r2
  clear r1 r2 c_ hb2
  by_cases hs : ∃ i, i < s.feats.length ∧ (s.feats.getD i noFeat).id = id
  rotate_left
  · have HX2 : Hid (x = -1) := Lib.hid (by rw [← HX.out]; exact fstI_none fun i hi => decide_eq_false fun h => hs ⟨i, hi, h⟩)
    have E : Hid (f = noFeat ∧ k = 4) := Lib.hid (by
      have hl : look s.feats id = none := by
        unfold look
        rw [List.find?_eq_none]
        intro y hy
        obtain ⟨i, hi, rfl⟩ := mem_getD noFeat hy
        simp only [decide_eq_true_eq]
        exact fun h => hs ⟨i, hi, h⟩
      have := HR2.out
      rw [hl] at this
      cases this
      exact ⟨rfl, rfl⟩)
    obtain ⟨rfl, rfl⟩ := E.out
    obtain rfl := HX2.out
    clear HR2 q1 hs
    have f2 := free_block q2
    have z2 := cell_block q2
    have Q2 := Lib.hid q2
    go_wp2_with fail
    have c9 := cell_block (block_set (i := 8) (block_set (i := 7) (block_set (i := 6) (block_set (i := 5) (block_set (i := 4) (block_set (i := 3) (block_set (i := 2) (block_set (i := 1) (block_set (i := 0) Q2.out (.int .i64 0)) (.int .i64 0)) (.int .i64 0)) (.int .i64 0)) (.int .i64 0)) (.slice none 0 0)) (.int .i64 0)) (.int .i64 0)) (.slice none 0 0))
    exact bodyPost_ret (v := .tuple #[featV noFeat (.slice none 0 0) (.slice none 0 0), .int .i64 4]) (by simp [results, Tryz.results42, go_sem, c9, noFeat]) rfl ⟨.slice none 0 0, .slice none 0 0, rfl, pts_none _, secs_none _, (((((((((hB2.setCell (by dsimp only; omega) _).setCell (by dsimp only; omega) _).setCell (by dsimp only; omega) _).setCell (by dsimp only; omega) _).setCell (by dsimp only; omega) _).setCell (by dsimp only; omega) _).setCell (by dsimp only; omega) _).setCell (by dsimp only; omega) _).setCell (by dsimp only; omega) _)⟩
  obtain ⟨i, hi, he⟩ : ∃ i, i < s.feats.length ∧ (s.feats.getD i noFeat).id = id ∧ x = i := by
    obtain ⟨j, hj, hje⟩ := hs
    have hfst := fstI_bd (fun i => decide ((s.feats.getD i noFeat).id = id)) s.feats.length
    rw [HX.out] at hfst
    by_cases h0 : 0 ≤ x
    · obtain ⟨i, rfl⟩ : ∃ i : Nat, x = i := ⟨x.toNat, by omega⟩
      refine ⟨i, by omega, ?_, rfl⟩
      exact of_decide_eq_true (fst_at HX.out)
    · exfalso
      have h1 := fstI_any (fun i => decide ((s.feats.getD i noFeat).id = id)) s.feats.length
      rw [HX.out, decide_eq_false h0] at h1
      have h2 : anyN (fun i => decide ((s.feats.getD i noFeat).id = id)) s.feats.length = true := anyN_at hj (decide_eq_true hje)
      rw [h2] at h1
      cases h1
  obtain ⟨he, rfl⟩ := he
  have E : Hid (f = s.feats.getD i noFeat ∧ k = 0) := Lib.hid (by
    have hl : look s.feats id = some (s.feats.getD i noFeat) := by
      rw [← he]
      exact look_mem (idsUp_of FS.out) (getD_mem hi)
    have := HR2.out
    rw [hl] at this
    cases this
    exact ⟨rfl, rfl⟩)
  obtain ⟨g, oo, va, vs, e0, fc⟩ := HF.out.row hi
  obtain ⟨hf1, rfl⟩ := E.out
  rw [← hf1] at fc
  clear HR2 hf1 E he hs HX
  subst e0
  obtain ⟨c0, c1, c2, c3, c4, c5, c6, c7, c8, PA, SA⟩ := fc
  obtain ⟨aa, ca, rfl, _, _, _⟩ := Lists.form PA
  obtain ⟨ab, cb, rfl, _, _, _⟩ := Lists.form SA
  have PA' := Lib.hid PA
  have SA' := Lib.hid SA
  have n0 := cell_later hB2 c0
  have n1 := cell_later hB2 c1
  have n2 := cell_later hB2 c2
  have n3 := cell_later hB2 c3
  have n4 := cell_later hB2 c4
  have n5 := cell_later hB2 c5
  have n6 := cell_later hB2 c6
  have n7 := cell_later hB2 c7
  have n8 := cell_later hB2 c8
  have c_ := cell_block q1
  have f2 := free_block q2
  have z2 := cell_block q2
  have Q2 := Lib.hid q2
  clear PA SA c0 c1 c2 c3 c4 c5 c6 c7 c8 q1 q2
  go_wp2_with fail
  have k9 := cell_block (block_set (i := 8) (block_set (i := 7) (block_set (i := 6) (block_set (i := 5) (block_set (i := 4) (block_set (i := 3) (block_set (i := 2) (block_set (i := 1) (block_set (i := 0) Q2.out (.int .i64 f.id)) (.int .i64 f.kind)) (.int .i64 f.x)) (.int .i64 f.y)) (.int .i64 f.rad)) (.slice aa f.area.length ca)) (.int .i64 f.dep)) (.int .i64 f.sym)) (.slice ab f.secs.length cb))
  exact bodyPost_ret (v := .tuple #[featV f (.slice aa f.area.length ca) (.slice ab f.secs.length cb), .int .i64 0]) (by simp [results, Tryz.results42, go_sem, k9]) rfl ⟨_, _, rfl, ptsL PA'.out (((((((((hB2.setCell (by dsimp only; omega) _).setCell (by dsimp only; omega) _).setCell (by dsimp only; omega) _).setCell (by dsimp only; omega) _).setCell (by dsimp only; omega) _).setCell (by dsimp only; omega) _).setCell (by dsimp only; omega) _).setCell (by dsimp only; omega) _).setCell (by dsimp only; omega) _), secsL SA'.out (((((((((hB2.setCell (by dsimp only; omega) _).setCell (by dsimp only; omega) _).setCell (by dsimp only; omega) _).setCell (by dsimp only; omega) _).setCell (by dsimp only; omega) _).setCell (by dsimp only; omega) _).setCell (by dsimp only; omega) _).setCell (by dsimp only; omega) _).setCell (by dsimp only; omega) _), (((((((((hB2.setCell (by dsimp only; omega) _).setCell (by dsimp only; omega) _).setCell (by dsimp only; omega) _).setCell (by dsimp only; omega) _).setCell (by dsimp only; omega) _).setCell (by dsimp only; omega) _).setCell (by dsimp only; omega) _).setCell (by dsimp only; omega) _).setCell (by dsimp only; omega) _)⟩
end Go.Proofs.YtdmegkkifiahdaaGreat
