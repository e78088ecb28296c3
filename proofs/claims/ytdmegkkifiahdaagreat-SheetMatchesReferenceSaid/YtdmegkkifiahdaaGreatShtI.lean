/- The walk of sheet.Differ. -/
import Derived.Test.YtdmegkkifiahdaaGreatShtG
import Derived.Test.YtdmegkkifiahdaaGreatSort
namespace Go.Proofs.YtdmegkkifiahdaaGreat
open Go.RowKit
attribute [local go_sem] bqOp bqAll bqUpon sqOp sqAll sqUpon ssOp ssAll
attribute [local irreducible] wpQuiet wpBQ wpPlan wsPlan
set_option linter.unusedVariables false
/-- The first IDs that Differ takes, and those of the second list. -/
def ids1 (a b : List Feat) (k : Nat) : List Int := ((a.take k).filter fun f => decide (look b f.id ≠ some f)).map Feat.id
def ids2 (a b : List Feat) (k : Nat) : List Int := ((b.take k).filter fun f => decide (look a f.id = none)).map Feat.id
theorem ids_all (a b : List Feat) : ids1 a b a.length ++ ids2 a b b.length = diffIds a b := by unfold ids1 ids2 diffIds; rw [List.take_length, List.take_length]
theorem ids1_step {a b : List Feat} {k : Nat} (hk : k < a.length) {f : Feat} (hf : a.getD k noFeat = f) : ids1 a b (k + 1) = if look b f.id = some f then ids1 a b k else ids1 a b k ++ [f.id] := by
  subst hf
  unfold ids1
  rw [List.take_succ_eq_append_getElem hk, List.filter_append, List.map_append]
  have e : a[k] = a.getD k noFeat := by rw [List.getD_eq_getElem?_getD, List.getElem?_eq_getElem hk]; rfl
  rw [e]
  by_cases h : look b (a.getD k noFeat).id = some (a.getD k noFeat)
  · rw [if_pos h]; simp only [List.filter_cons, List.filter_nil]; rw [if_neg (by simpa using h)]; simp
  · rw [if_neg h]; simp only [List.filter_cons, List.filter_nil]; rw [if_pos (by simpa using h)]; simp
theorem ids2_step {a b : List Feat} {k : Nat} (hk : k < b.length) {f : Feat} (hf : b.getD k noFeat = f) : ids2 a b (k + 1) = if look a f.id = none then ids2 a b k ++ [f.id] else ids2 a b k := by
  subst hf
  unfold ids2
  rw [List.take_succ_eq_append_getElem hk, List.filter_append, List.map_append]
  have e : b[k] = b.getD k noFeat := by rw [List.getD_eq_getElem?_getD, List.getElem?_eq_getElem hk]; rfl
  rw [e]
  by_cases h : look a (b.getD k noFeat).id = none
  · rw [if_pos h]; simp only [List.filter_cons, List.filter_nil]; rw [if_pos (by simpa using h)]; simp
  · rw [if_neg h]; simp only [List.filter_cons, List.filter_nil]; rw [if_neg (by simpa using h)]; simp
theorem ids1_len (a b : List Feat) (k : Nat) : (ids1 a b k).length ≤ a.length := by
  unfold ids1
  rw [List.length_map]
  exact Nat.le_trans (List.length_filter_le _ _) (by rw [List.length_take]; omega)
theorem ids2_len (a b : List Feat) (k : Nat) : (ids2 a b k).length ≤ b.length := by
  unfold ids2
  rw [List.length_map]
  exact Nat.le_trans (List.length_filter_le _ _) (by rw [List.length_take]; omega)
theorem look_at {l : List Feat} (hl : idsUp l) {i : Nat} (hi : i < l.length) {id : Int} {g : Feat} (hg : l.getD i noFeat = g) (he : g.id = id) : look l id = some g := by
  subst hg he
  exact look_mem hl (getD_mem hi)
theorem feat_id {l : List Feat} (h : FeatsOk l) {k : Nat} (hk : k < l.length) {f : Feat} (hf : l.getD k noFeat = f) : 1 ≤ f.id ∧ f.id ≤ 100000 := by
  subst hf
  exact (h.2 k hk).1.1.1
/-- What Differ gives. -/
def DiffP (a b : List Feat) (w : World) (e : Ending) (w' : World) : Prop := ∃ ad c l, DiffL a b l ∧ l.length ≤ 600 ∧ e = .returned (.tuple #[.slice ad l.length c, .int .i64 0]) ∧ IntsAt w' (.slice ad l.length c) l ∧ Below w.heap.size w w'
theorem shDiffer_no (s t : Sht) (vd vf vd' vf' : Value) (w : World) (hd : IntsAt w vd s.don) (hf : FeatsAt w vf s.feats) (kd : IntsAt w vd' t.don) (kf : FeatsAt w vf' t.feats) (hn : ¬ (ShtOk s ∧ ShtOk t)) :
    Calls Tryz.prog 46 #[shtV s vd vf, shtV t vd' vf'] w fun z w' => z = .returned (.tuple #[.slice none 0 0, .int .i64 1]) ∧ Below w.heap.size w w' := by
  obtain ⟨ad, cd, rfl, h1, _, _⟩ := Lists.form hd
  obtain ⟨af, cf, rfl, g1, _, _⟩ := hf.form
  obtain ⟨ad', cd', rfl, h1', _, _⟩ := Lists.form kd
  obtain ⟨af', cf', rfl, g1', _, _⟩ := kf.form
  obtain ⟨u, hu⟩ : ∃ k, decide (ShtOk s) = k := ⟨_, rfl⟩
  have HN : Hid (u = true → decide (ShtOk t) = false) := Lib.hid (fun e => by subst e; exact decide_eq_false (fun h => hn ⟨of_decide_eq_true hu, h⟩))
  have HU := Lib.hid hu
  have HD := Lib.hid hd
  have HF := Lib.hid hf
  have KD := Lib.hid kd
  have KF := Lib.hid kf
  clear hd hf h1 g1 kd kf h1' g1' hn hu
  go_enter Tryz.func46, Tryz.ntmps46
  go_wp2_with fail
  refine calls_named fun W hW => ?_
  obtain ⟨p1, p2, hB⟩ := box2 hW
  clear hW p1
  (with_reducible refine (shValid_any s _ _ _ (intsL HD.out hB) (HF.out.later hB) HU.out).mono ?_)
  rintro e w1 ⟨rfl, hb1⟩
  have hB1 := below_step hB hb1
  have r2 := block_later hb1 p2
  have c0 := cell_block r2 0
  have c1 := cell_block r2 1
  have c2 := cell_block r2 2
  have c3 := cell_block r2 3
  have c4 := cell_block r2 4
  have c5 := cell_block r2 5
  have c6 := cell_block r2 6
  have c7 := cell_block r2 7
  have c8 := cell_block r2 8
  have c9 := cell_block r2 9
  have c10 := cell_block r2 10
  have c11 := cell_block r2 11
  have c12 := cell_block r2 12
  clear r2 p2
  cases u
  · go_wp2_with fail
    go_ret2
    exact ⟨rfl, hB1⟩
  have NO := Lib.hid (HN.out rfl)
  go_wp2_with fail
  (with_reducible refine (shValid_any t _ _ _ (intsL KD.out hB1) (KF.out.later hB1) NO.out).mono ?_)
  rintro e w2 ⟨rfl, hb2⟩
  go_wp2_with fail
  go_ret2
  exact ⟨rfl, below_step hB1 hb2⟩
set_option maxHeartbeats 8000000 in
theorem shDiffer_yes (s t : Sht) (vd vf vd' vf' : Value) (w : World) (hd : IntsAt w vd s.don) (hf : FeatsAt w vf s.feats) (kd : IntsAt w vd' t.don) (kf : FeatsAt w vf' t.feats) (hs : ShtOk s) (ht : ShtOk t) :
    Calls Tryz.prog 46 #[shtV s vd vf, shtV t vd' vf'] w (DiffP s.feats t.feats w) := by
  obtain ⟨ad, cd, rfl, h1, _, _⟩ := Lists.form hd
  obtain ⟨af, cf, rfl, g1, hn1, _⟩ := hf.form
  obtain ⟨ad', cd', rfl, h1', _, _⟩ := Lists.form kd
  obtain ⟨af', cf', rfl, g1', hn2, _⟩ := kf.form
  obtain ⟨n, hsn⟩ : ∃ n, s.feats.length = n := ⟨_, rfl⟩
  obtain ⟨n', htn⟩ : ∃ n, t.feats.length = n := ⟨_, rfl⟩
  have h300 : n ≤ 300 := by rw [← hsn]; exact hs.2.2.2.2.2.2.2.1
  have h301 : n' ≤ 300 := by rw [← htn]; exact ht.2.2.2.2.2.2.2.1
  have HS := Lib.hid hs
  have HT := Lib.hid ht
  have FS := Lib.hid hs.2.2.2.2.2.2.2
  have FT := Lib.hid ht.2.2.2.2.2.2.2
  have US := Lib.hid (idsUp_of FS.out)
  have UT := Lib.hid (idsUp_of FT.out)
  have HD := Lib.hid hd
  have HF := Lib.hid hf
  have KD := Lib.hid kd
  have KF := Lib.hid kf
  rw [hsn] at HF ⊢
  rw [htn] at KF ⊢
  have SN := Lib.hid hsn
  have TN := Lib.hid htn
  clear hd hf h1 g1 kd kf h1' g1' hs ht hsn htn hn1 hn2
  go_enter Tryz.func46, Tryz.ntmps46
  go_wp2_with fail
  refine calls_named fun W hW => ?_
  have hsW : W.heap.size = w.heap.size + 2 := by rw [hW]; simp
  obtain ⟨p1, p2, hB⟩ := box2 hW
  clear hW
  (with_reducible refine (shValid_any s _ _ _ (intsL HD.out hB) (HF.out.later hB) (decide_eq_true HS.out)).mono ?_)
  rintro e w1 ⟨rfl, hb1⟩
  have hB1 := below_step hB hb1
  have r2 := block_later hb1 p2
  have c0 := cell_block r2 0
  have c1 := cell_block r2 1
  have c2 := cell_block r2 2
  have c3 := cell_block r2 3
  have c4 := cell_block r2 4
  have c5 := cell_block r2 5
  have c6 := cell_block r2 6
  have c7 := cell_block r2 7
  have c8 := cell_block r2 8
  have c9 := cell_block r2 9
  have c10 := cell_block r2 10
  have c11 := cell_block r2 11
  have c12 := cell_block r2 12
  clear r2
  go_wp2_with fail
  (with_reducible refine (shValid_any t _ _ _ (intsL KD.out hB1) (KF.out.later hB1) (decide_eq_true HT.out)).mono ?_)
  rintro e w2 ⟨rfl, hb2⟩
  have hS2 : Below (w.heap.size + 2) W w2 := (below_step hb1 hb2).mono (by omega)
  have BS := Lib.hid (fun w' (h : Below (w.heap.size + 2) W w') => (h.block w.heap.size (by omega)).trans p1)
  have BT := Lib.hid (fun w' (h : Below (w.heap.size + 2) W w') => (h.block (w.heap.size + 1) (by omega)).trans p2)
  clear p1 p2 hb1 hb2 hB1 c0 c1 c2 c3 c4 c5 c6 c7 c8 c9 c10 c11 c12
  have e12 := cell_block (BS.out w2 hS2) 12
  go_wp2_with fail
  go_loopw [6, 26] (fun x i wr => ∃ (k : Nat) (ad' : Option Addr) (c' : Nat) (m : List Int), k ≤ n ∧ i = .int .i64 k ∧ x = .slice ad' m.length c' ∧ m = ids1 s.feats t.feats k ∧ OwnI (w.heap.size + 2) wr (.slice ad' m.length c') m ∧ Below (w.heap.size + 2) W wr) (fun _ i _ => n - (intOf i).toNat)
  case atStart => exact ⟨0, none, 0, [], by omega, rfl, rfl, rfl, OwnI.nil _ _, hS2⟩
  case round =>
    clear hS2 e12
    obtain ⟨k, ad', c', m, hk, rfl, rfl, hm, how, hb⟩ := hrel
    have OW := Lib.hid how
    have hml : m.length ≤ 300 := by rw [hm]; have := ids1_len s.feats t.feats k; have := SN.out; omega
    have M := Lib.hid hm
    clear hm how
    have hszk := hb.size
    have hw : Below w.heap.size w wr := hB.trans (hb.mono (by omega))
    rcases Nat.lt_or_ge k n with hlt | hge
    · obtain ⟨g, o, va, vs, rfl, fc⟩ := (HF.out.later hw).row hlt
      obtain ⟨f, hfk⟩ : ∃ f, s.feats.getD k noFeat = f := ⟨_, rfl⟩
      rw [hfk] at fc
      have FK := Lib.hid hfk
      obtain ⟨bd1, bd2⟩ := feat_id FS.out (k := k) (by have := SN.out; omega) hfk
      clear hfk
      obtain ⟨c0, c1, c2, c3, c4, c5, c6, c7, c8, PA, SA⟩ := fc
      obtain ⟨aa, ca, rfl, _, _, _⟩ := Lists.form PA
      obtain ⟨ab, cb, rfl, _, _, _⟩ := Lists.form SA
      have PA' := Lib.hid PA
      have SA' := Lib.hid SA
      clear PA SA
      have bt := block_later ((Below.refl wr.heap.size wr).alloc (Nat.le_refl _) (.cells #[.int .i64 f.id, .int .i64 f.kind, .int .i64 f.x, .int .i64 f.y, .int .i64 f.rad, .slice aa f.area.length ca, .int .i64 f.dep, .int .i64 f.sym, .slice ab f.secs.length cb] 32)) (BT.out wr hb)
      have d0 := cell_block bt 0
      have d1 := cell_block bt 1
      have d2 := cell_block bt 2
      have d3 := cell_block bt 3
      have d4 := cell_block bt 4
      have d5 := cell_block bt 5
      have d6 := cell_block bt 6
      have d7 := cell_block bt 7
      have d8 := cell_block bt 8
      have d9 := cell_block bt 9
      have d10 := cell_block bt 10
      have d11 := cell_block bt 11
      have d12 := cell_block bt 12
      clear bt
      go_wp2_with fail
      refine calls_named fun W1 hW1 => ?_
      obtain ⟨q0, hBW⟩ := box1 hW1
      clear hW1 c0 c1 c2 c3 c4 c5 c6 c7 c8 d0 d1 d2 d3 d4 d5 d6 d7 d8 d9 d10 d11 d12
      have hw1 := below_step hw hBW
      (with_reducible refine (shfind_any t _ _ f.id _ (intsL KD.out hw1) (KF.out.later hw1) FT.out (by omega) (by omega)).mono ?_)
      rintro e wf ⟨i, b, rfl, h1, h2, hbf⟩
      have H1 := Lib.hid h1
      have H2 := Lib.hid h2
      have hBx := below_step hBW hbf
      have qf := block_later hbf q0
      clear h1 h2 hbf hBW q0 hw1
      cases b
      · have NO := Lib.hid (H2.out rfl)
        go_wp2_with fail
        refine wp_region_plan (.take 0 (.take 0 (.take 0 (.take 0 (.take 0 (.take 0 (.take 0 (.take 0 (.take 0 (.only 0 (.take 0 (.take 0 .done)))))))))))) (by kernel_rfl) (by kernel_rfl) (fun hP => ?_)
        repeat' (first
          | (refine wpPlan_two ?_ ?_)
          | (refine wpPlan_three ?_ ?_ ?_)
          | (refine wpPlan_take rfl (fun K hK => ?_); replace hK := Lib.hid hK; go_simp; first | (refine hK.out _ ?_; clear hK K) | (apply Exists.intro; refine ⟨fun _ => ?_, hK.out _ ?_⟩; (first | with_reducible exact rfl | skip); clear hK K))
          | (refine wpPlan_only rfl (fun K hK => ?_); replace hK := Lib.hid hK; (first | (go_simp; first | skip)); refine hK.out _ _ (by first | assumption | exact below_step hP hbx | exact hP.drew | exact hP.alloc hP.size _) (fun hP => ?_); clear hK K))
        all_goals refine wpPlan_done ?_
        have qz := block_later hP qf
        have O2 := Lib.hid (OW.out.keep ((hBx.alloc hBx.size (.cells #[.int .i64 f.id] 3))).drew)
        have hgr := hBx.size
        have z0 := cell_block qz 0
        go_wp2_with (at_builtin; refine wpList_app rfl _ _ rfl (w.heap.size + 2) _ m [f.id] rfl O2.out _ 1 _ rfl rfl (intsL (lit_ints (w := wf) [f.id] rfl rfl rfl (by unfold maxLen; simp)) ((Below.refl _ _).drew)) (by omega) (by simp; omega) ?_; intro ad3 c3 w3 hown3 hb3)
        have O3 := Lib.hid hown3
        have hB3 : Below (w.heap.size + 2) W w3 := ((hb.trans (hBx.mono (by omega))).alloc (by omega) _).drew.trans hb3
        have LN := Lib.hid (show (m ++ [f.id]).length = m.length + 1 by simp)
        have STEP := Lib.hid (show m ++ [f.id] = ids1 s.feats t.feats (k + 1) by rw [ids1_step (by have := SN.out; omega) FK.out, if_neg (by rw [NO.out]; exact fun h => nomatch h), M.out])
        clear hown3 hb3
        go_wp2_with fail
        go_roundw
        case rel => exact ⟨k + 1, ad3, c3, m ++ [f.id], by omega, by go_num, by rw [LN.out], STEP.out, by rw [LN.out]; exact O3.out, hB3⟩
        case measure => simp [intOf]; omega
      · obtain ⟨hi, hie⟩ := H1.out rfl
        obtain ⟨z, hzi⟩ : ∃ z, t.feats.getD i noFeat = z := ⟨_, rfl⟩
        have LK : Hid (look t.feats f.id = some z) := Lib.hid (look_at UT.out hi hzi (by rw [hzi] at hie; exact hie))
        rw [TN.out] at hi
        obtain ⟨g', o', va', vs', rfl, fz⟩ := (KF.out.later (below_step hw hBx)).row hi
        rw [hzi] at fz
        clear hzi hie
        obtain ⟨y0, y1, y2, y3, y4, y5, y6, y7, y8, PZ, SZ⟩ := fz
        obtain ⟨za, zc, rfl, _, _, _⟩ := Lists.form PZ
        obtain ⟨zb, zd, rfl, _, _, _⟩ := Lists.form SZ
        have PZ' := Lib.hid PZ
        have SZ' := Lib.hid SZ
        clear PZ SZ
        have hbz : Below (w.heap.size + 2) W wf := hb.trans (hBx.mono (by omega))
        have b12 := cell_block (BT.out wf hbz) 12
        have x12 := fun d os => cell_later (below_regrown wf d os) b12
        have x0 := fun d os => cell_later (below_regrown wf d os) (cell_block qf 0)
        have j0 := fun d os => cell_later (below_regrown wf d os) y0
        have x1 := fun d os => cell_later (below_regrown wf d os) (cell_block qf 1)
        have j1 := fun d os => cell_later (below_regrown wf d os) y1
        have x2 := fun d os => cell_later (below_regrown wf d os) (cell_block qf 2)
        have j2 := fun d os => cell_later (below_regrown wf d os) y2
        have x3 := fun d os => cell_later (below_regrown wf d os) (cell_block qf 3)
        have j3 := fun d os => cell_later (below_regrown wf d os) y3
        have x4 := fun d os => cell_later (below_regrown wf d os) (cell_block qf 4)
        have j4 := fun d os => cell_later (below_regrown wf d os) y4
        have x5 := fun d os => cell_later (below_regrown wf d os) (cell_block qf 5)
        have j5 := fun d os => cell_later (below_regrown wf d os) y5
        have x6 := fun d os => cell_later (below_regrown wf d os) (cell_block qf 6)
        have j6 := fun d os => cell_later (below_regrown wf d os) y6
        have x7 := fun d os => cell_later (below_regrown wf d os) (cell_block qf 7)
        have j7 := fun d os => cell_later (below_regrown wf d os) y7
        have x8 := fun d os => cell_later (below_regrown wf d os) (cell_block qf 8)
        have j8 := fun d os => cell_later (below_regrown wf d os) y8
        obtain ⟨u, hu⟩ : ∃ u, decide (f = z) = u := ⟨_, rfl⟩
        have HU := Lib.hid hu
        clear hu b12 y0 y1 y2 y3 y4 y5 y6 y7 y8
        go_wp2_with fail
        refine wp_region_plan (.take 0 (.take 0 (.take 0 (.take 0 (.take 0 (.take 0 (.take 0 (.take 0 (.take 0 (.only 0 (.take 0 (.take 0 .done)))))))))))) (by kernel_rfl) (by kernel_rfl) (fun hP => ?_)
        repeat' (first
          | (refine wpPlan_two ?_ ?_)
          | (refine wpPlan_three ?_ ?_ ?_)
          | (refine wpPlan_take rfl (fun K hK => ?_); replace hK := Lib.hid hK; go_simp; first | (refine hK.out _ ?_; clear hK K) | (apply Exists.intro; refine ⟨fun _ => ?_, hK.out _ ?_⟩; (first | with_reducible exact rfl | skip); clear hK K))
          | (refine wpPlan_only rfl (fun K hK => ?_); replace hK := Lib.hid hK; (first | (go_simp; first | (with_reducible refine (ftSame_any f z _ _ _ _ _ (ptsL PA'.out (hBx.trans (hP.mono hBx.size))) (secsL SA'.out (hBx.trans (hP.mono hBx.size))) (ptsL PZ'.out hP) (secsL SZ'.out hP) HU.out).mono ?_; rintro e wx ⟨rfl, hbx⟩) | skip)); refine hK.out _ _ (by first | assumption | exact below_step hP hbx | exact hP.drew | exact hP.alloc hP.size _) (fun hP => ?_); clear hK K))
        all_goals refine wpPlan_done ?_
        have qz := block_later hP qf
        have hBy := below_step hBx hP
        cases u
        · have O2 := Lib.hid (OW.out.keep (hBy.alloc hBy.size (.cells #[.int .i64 f.id] 3)))
          have hgr := hBy.size
          have z0 := cell_block qz 0
          go_wp2_with (at_builtin; refine wpList_app rfl _ _ rfl (w.heap.size + 2) _ m [f.id] rfl O2.out _ 1 _ rfl rfl (lit_ints [f.id] rfl rfl rfl (by unfold maxLen; simp)) (by omega) (by simp; omega) ?_; intro ad3 c3 w3 hown3 hb3)
          have O3 := Lib.hid hown3
          have hB3 : Below (w.heap.size + 2) W w3 := ((hb.trans (hBy.mono (by omega))).alloc (by omega) _).trans hb3
          have LN := Lib.hid (show (m ++ [f.id]).length = m.length + 1 by simp)
          have STEP := Lib.hid (show m ++ [f.id] = ids1 s.feats t.feats (k + 1) by rw [ids1_step (by have := SN.out; omega) FK.out, if_neg (by rw [LK.out]; intro h; cases h; exact of_decide_eq_false HU.out rfl), M.out])
          clear hown3 hb3
          go_wp2_with fail
          go_roundw
          case rel => exact ⟨k + 1, ad3, c3, m ++ [f.id], by omega, by go_num, by rw [LN.out], STEP.out, by rw [LN.out]; exact O3.out, hB3⟩
          case measure => simp [intOf]; omega
        · have STEP := Lib.hid (show m = ids1 s.feats t.feats (k + 1) by rw [ids1_step (by have := SN.out; omega) FK.out, if_pos (by rw [LK.out, of_decide_eq_true HU.out]), M.out])
          have O3 := Lib.hid (OW.out.keep hBy)
          have hB3 : Below (w.heap.size + 2) W _ := hb.trans (hBy.mono (by omega))
          go_wp2_with fail
          go_roundw
          case rel => exact ⟨k + 1, ad', c', m, by omega, by go_num, rfl, STEP.out, O3.out, hB3⟩
          case measure => simp [intOf]; omega
    · obtain rfl : k = n := by omega
      have M1 := Lib.hid (show m = ids1 s.feats t.feats s.feats.length by rw [M.out, SN.out])
      have e12 := cell_block (BT.out wr hb) 12
      clear M
      have OW1 := Lib.hid OW.out
      have hb1 := hb
      obtain ⟨m1, hm1⟩ : ∃ l, l = m := ⟨_, rfl⟩
      go_wp2_with fail
      go_loopw [6, 58] (fun x i wr => ∃ (k : Nat) (ad' : Option Addr) (c' : Nat) (l : List Int), k ≤ n' ∧ i = .int .i64 k ∧ x = .slice ad' l.length c' ∧ l = m ++ ids2 s.feats t.feats k ∧ OwnI (w.heap.size + 2) wr (.slice ad' l.length c') l ∧ Below (w.heap.size + 2) W wr) (fun _ i _ => n' - (intOf i).toNat)
      case atStart => exact ⟨0, ad', c', m, by omega, rfl, rfl, by simp [ids2], OW1.out, hb1⟩
      case round =>
        clear hb1 OW1 OW e12 hb hw hszk
        obtain ⟨k, ad2, c2', l, hk, rfl, rfl, hl, how, hb⟩ := hrel
        have OW := Lib.hid how
        have hml : l.length ≤ 600 := by rw [hl, List.length_append]; have := ids2_len s.feats t.feats k; have := TN.out; omega
        have M := Lib.hid hl
        clear hl how
        have hszk := hb.size
        have hw : Below w.heap.size w wr := hB.trans (hb.mono (by omega))
        rcases Nat.lt_or_ge k n' with hlt | hge
        · obtain ⟨g, o, va, vs, rfl, fc⟩ := (KF.out.later hw).row hlt
          obtain ⟨f, hfk⟩ : ∃ f, t.feats.getD k noFeat = f := ⟨_, rfl⟩
          rw [hfk] at fc
          have FK := Lib.hid hfk
          obtain ⟨bd1, bd2⟩ := feat_id FT.out (k := k) (by have := TN.out; omega) hfk
          clear hfk
          obtain ⟨c0, c1, c2, c3, c4, c5, c6, c7, c8, PA, SA⟩ := fc
          obtain ⟨aa, ca, rfl, _, _, _⟩ := Lists.form PA
          obtain ⟨ab, cb, rfl, _, _, _⟩ := Lists.form SA
          have PA' := Lib.hid PA
          have SA' := Lib.hid SA
          clear PA SA
          have bt := block_later ((Below.refl wr.heap.size wr).alloc (Nat.le_refl _) (.cells #[.int .i64 f.id, .int .i64 f.kind, .int .i64 f.x, .int .i64 f.y, .int .i64 f.rad, .slice aa f.area.length ca, .int .i64 f.dep, .int .i64 f.sym, .slice ab f.secs.length cb] 32)) (BS.out wr hb)
          have d0 := cell_block bt 0
          have d1 := cell_block bt 1
          have d2 := cell_block bt 2
          have d3 := cell_block bt 3
          have d4 := cell_block bt 4
          have d5 := cell_block bt 5
          have d6 := cell_block bt 6
          have d7 := cell_block bt 7
          have d8 := cell_block bt 8
          have d9 := cell_block bt 9
          have d10 := cell_block bt 10
          have d11 := cell_block bt 11
          have d12 := cell_block bt 12
          clear bt
          go_wp2_with fail
          refine calls_named fun W1 hW1 => ?_
          obtain ⟨q0, hBW⟩ := box1 hW1
          clear hW1 c0 c1 c2 c3 c4 c5 c6 c7 c8 d0 d1 d2 d3 d4 d5 d6 d7 d8 d9 d10 d11 d12
          have hw1 := below_step hw hBW
          (with_reducible refine (shfind_any s _ _ f.id _ (intsL HD.out hw1) (HF.out.later hw1) FS.out (by omega) (by omega)).mono ?_)
          rintro e wf ⟨i, b, rfl, h1, h2, hbf⟩
          have H1 := Lib.hid h1
          have H2 := Lib.hid h2
          have hBx := below_step hBW hbf
          have qf := block_later hbf q0
          clear h1 h2 hbf hBW q0 hw1
          cases b
          · have NO := Lib.hid (H2.out rfl)
            have qz := qf
            have O2 := Lib.hid (OW.out.keep (hBx.alloc hBx.size (.cells #[.int .i64 f.id] 3)))
            have hgr := hBx.size
            have z0 := cell_block qz 0
            go_wp2_with (at_builtin; refine wpList_app rfl _ _ rfl (w.heap.size + 2) _ l [f.id] rfl O2.out _ 1 _ rfl rfl (lit_ints [f.id] rfl rfl rfl (by unfold maxLen; simp)) (by omega) (by simp; omega) ?_; intro ad3 c3 w3 hown3 hb3)
            have O3 := Lib.hid hown3
            have hB3 : Below (w.heap.size + 2) W w3 := ((hb.trans (hBx.mono (by omega))).alloc (by omega) _).trans hb3
            have LN := Lib.hid (show (l ++ [f.id]).length = l.length + 1 by simp)
            have STEP := Lib.hid (show l ++ [f.id] = m ++ ids2 s.feats t.feats (k + 1) by rw [ids2_step (by have := TN.out; omega) FK.out, if_pos NO.out, M.out, List.append_assoc])
            clear hown3 hb3
            go_wp2_with fail
            go_roundw
            case rel => exact ⟨k + 1, ad3, c3, l ++ [f.id], by omega, by go_num, by rw [LN.out], STEP.out, by rw [LN.out]; exact O3.out, hB3⟩
            case measure => simp [intOf]; omega
          · obtain ⟨hi, hie⟩ := H1.out rfl
            have LK := Lib.hid (look_at US.out hi rfl hie)
            have STEP := Lib.hid (show l = m ++ ids2 s.feats t.feats (k + 1) by rw [ids2_step (by have := TN.out; omega) FK.out, if_neg (by rw [LK.out]; exact fun h => nomatch h), M.out])
            have O3 := Lib.hid (OW.out.keep hBx)
            have hB3 : Below (w.heap.size + 2) W _ := hb.trans (hBx.mono (by omega))
            go_wp2_with fail
            go_roundw
            case rel => exact ⟨k + 1, ad2, c2', l, by omega, by go_num, rfl, STEP.out, O3.out, hB3⟩
            case measure => simp [intOf]; omega
        · obtain rfl : k = n' := by omega
          have EQ := Lib.hid (show l = diffIds s.feats t.feats by rw [M.out, M1.out, ← TN.out]; exact ids_all _ _)
          clear M
          go_wp2_with fail
          (with_reducible refine (sortInts_any (w.heap.size + 2) l _ _ OW.out (by omega) (by omega)).mono ?_)
          rintro e w3 ⟨rfl, ho3, hb3⟩
          have O3 := Lib.hid ho3
          clear ho3
          go_wp2_with fail
          go_ret2
          refine ⟨ad2, c2', sorted l, diffL_of US.out UT.out (by rw [← EQ.out]; exact sorted_perm l) (sorted_up l), by rw [sorted_length]; exact hml, by rw [sorted_length]; rfl, ?_, hB.trans ((hb.trans hb3).mono (by omega))⟩
          rw [sorted_length]
          exact O3.out.ints (by rw [sorted_length]; omega)
end Go.Proofs.YtdmegkkifiahdaaGreat
