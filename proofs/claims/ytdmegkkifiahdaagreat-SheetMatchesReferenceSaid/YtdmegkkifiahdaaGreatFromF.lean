/- The walk of From$3: a feature is read. -/
import Derived.Test.YtdmegkkifiahdaaGreatGetS
import Derived.Test.YtdmegkkifiahdaaGreatShtC
namespace Go.Proofs.YtdmegkkifiahdaaGreat
open Go.RowKit
attribute [local go_sem] bqOp bqAll bqUpon sqOp sqAll sqUpon ssOp ssAll
attribute [local irreducible] wpQuiet wpBQ wpPlan wsPlan
set_option linter.unusedVariables false
theorem one_set {w0 w wn : World} {br b i : Nat} {x : Value} {cs : Array Value} {T : TypeId} (h : wn = w.setCell ⟨b, i, none⟩ x) (hb : w.heap[b]? = some (.cells cs T (0, 0))) :
    wn.heap[b]? = some (.cells (cs.setIfInBounds i x) T (0, 0)) ∧ (∀ j o, j ≠ b → w.heap[j]? = some o → wn.heap[j]? = some o) ∧ (∀ l, RestAt w0 br w l → b ≠ br → w0.heap.size ≤ b → RestAt w0 br wn l) ∧ (∀ W, Wr br W w → W.heap.size ≤ b → Wr br W wn) := by
  subst h
  exact ⟨block_set hb x, fun j o hj ho => set_other ho hj, fun l hl hne hk => hl.setOther hne hk _, fun W hw hk => hw.setOther hk _⟩
theorem two_set {w0 w wn : World} {br b i j : Nat} {x y : Value} {cs : Array Value} {T : TypeId} (h : wn = (w.setCell ⟨b, i, none⟩ x).setCell ⟨b, j, none⟩ y) (hb : w.heap[b]? = some (.cells cs T (0, 0))) :
    wn.heap[b]? = some (.cells ((cs.setIfInBounds i x).setIfInBounds j y) T (0, 0)) ∧ (∀ j o, j ≠ b → w.heap[j]? = some o → wn.heap[j]? = some o) ∧ (∀ l, RestAt w0 br w l → b ≠ br → w0.heap.size ≤ b → RestAt w0 br wn l) ∧ (∀ W, Wr br W w → W.heap.size ≤ b → Wr br W wn) := by
  subst h
  exact ⟨block_set (block_set hb x) y, fun j o hj ho => set_other (set_other ho hj) hj, fun l hl hne hk => (hl.setOther hne hk _).setOther hne hk _, fun W hw hk => (hw.setOther hk _).setOther hk _⟩
theorem own_ho {w wn : World} {base k n b : Nat} {e ty : TypeId} {v : Value} {xs : List Value} {cs : Array Value} {m : Nat × Nat} (hown : w.ownsRow base e k v n xs) (hb : w.heap[b]? = some (.cells cs ty m)) (hne : ty ≠ e) (ho : ∀ j o, j ≠ b → w.heap[j]? = some o → wn.heap[j]? = some o) : wn.ownsRow base e k v n xs := by
  refine ⟨hown.1, ?_⟩
  rcases hown.2 with h | ⟨g, cap, cur, hv, hbg, hg', rest⟩
  · exact .inl h
  · refine .inr ⟨g, cap, cur, hv, hbg, ho _ _ (fun e => ?_) hg', rest⟩
    subst e
    rw [hb] at hg'
    cases hg'
    exact hne rfl
theorem own_mono {base base' k n : Nat} {w : World} {e : TypeId} {v : Value} {xs : List Value} (h : w.ownsRow base e k v n xs) (hb : base' ≤ base) : w.ownsRow base' e k v n xs := by
  refine ⟨h.1, ?_⟩
  rcases h.2 with h | ⟨g, cap, cur, rfl, hg, hh, hr⟩
  · exact .inl h
  · exact .inr ⟨g, cap, cur, rfl, Nat.le_trans hb hg, hh, hr⟩
theorem feat_set {w0 w wn : World} {br b : Nat} {x0 x1 x2 x3 x4 x5 x6 x7 x8 y0 y1 y2 y3 y4 y5 y6 y7 y8 : Value} {T : TypeId} (h : wn = ((((((((w.setCell ⟨b, 0, none⟩ x0).setCell ⟨b, 1, none⟩ x1).setCell ⟨b, 2, none⟩ x2).setCell ⟨b, 3, none⟩ x3).setCell ⟨b, 4, none⟩ x4).setCell ⟨b, 5, none⟩ x5).setCell ⟨b, 6, none⟩ x6).setCell ⟨b, 7, none⟩ x7).setCell ⟨b, 8, none⟩ x8) (hb : w.heap[b]? = some (.cells #[y0, y1, y2, y3, y4, y5, y6, y7, y8] T (0, 0))) :
    wn.heap[b]? = some (.cells #[x0, x1, x2, x3, x4, x5, x6, x7, x8] T (0, 0)) ∧ (∀ j o, j ≠ b → w.heap[j]? = some o → wn.heap[j]? = some o) ∧ (∀ l, RestAt w0 br w l → b ≠ br → w0.heap.size ≤ b → RestAt w0 br wn l) ∧ (∀ W, Wr br W w → W.heap.size ≤ b → Wr br W wn) := by
  subst h
  refine ⟨by simpa using block_set (i := 8) (block_set (i := 7) (block_set (i := 6) (block_set (i := 5) (block_set (i := 4) (block_set (i := 3) (block_set (i := 2) (block_set (i := 1) (block_set (i := 0) hb x0) x1) x2) x3) x4) x5) x6) x7) x8, fun j o hj ho => set_other (set_other (set_other (set_other (set_other (set_other (set_other (set_other (set_other ho hj) hj) hj) hj) hj) hj) hj) hj) hj, fun l hl hne hk => ((((((((hl.setOther hne hk _).setOther hne hk _).setOther hne hk _).setOther hne hk _).setOther hne hk _).setOther hne hk _).setOther hne hk _).setOther hne hk _).setOther hne hk _, fun W hw hk => ((((((((hw.setOther hk _).setOther hk _).setOther hk _).setOther hk _).setOther hk _).setOther hk _).setOther hk _).setOther hk _).setOther hk _⟩
def NxS (br bn : Nat) (w w' : World) : Prop := Wr br w w' ∧ w'.heap[bn]? = some (.cells #[nextV br] 141 (0, 0))
theorem NxS.wr {br bn : Nat} {w w1 w2 : World} (h : NxS br bn w w1) (k : Wr br w1 w2) (hn : bn ≠ br) : NxS br bn w w2 := ⟨h.1.trans k, k.block_ne h.2 hn⟩
/-- The function value that reads a feature, and what it gives. -/
@[reducible] def featRV (bn bp : Nat) : Value := .func (.func 117) #[] #[.pointer (some ⟨bn, 0, none⟩), .pointer (some ⟨bp, 0, none⟩)]
def ReadF (w0 : World) (br : Nat) (f : Feat) (t : List Int) (w : World) (e : Ending) (w' : World) : Prop := ∃ aa ca ab cb, e = .returned (featV f (.slice aa f.area.length ca) (.slice ab f.secs.length cb)) ∧ OwnP w.heap.size w' (.slice aa f.area.length ca) f.area ∧ OwnS w.heap.size w' (.slice ab f.secs.length cb) f.secs ∧ RestAt w0 br w' t ∧ Wr br w w'
theorem rdFeat_disc {l : List Int} {f : Feat} {t : List Int} (h : rdFeat l = (f, t)) (hk : DiscK (l.getD 1 0)) : f = ⟨l.getD 0 0, l.getD 1 0, l.getD 3 0, l.getD 4 0, l.getD 5 0, [], l.getD 6 0, l.getD 2 0, []⟩ ∧ t = l.drop 7 := by
  unfold rdFeat at h
  rw [if_pos hk] at h
  exact ⟨(congrArg Prod.fst h).symm, (congrArg Prod.snd h).symm⟩
theorem rdFeat_light {l : List Int} {f : Feat} {t : List Int} (h : rdFeat l = (f, t)) (hk : l.getD 1 0 = 4) : f = ⟨l.getD 0 0, l.getD 1 0, l.getD 3 0, l.getD 4 0, 0, [], 0, l.getD 2 0, (getL rdSec 12 (l.drop 5)).1⟩ ∧ t = (getL rdSec 12 (l.drop 5)).2 := by
  unfold rdFeat at h
  rw [if_neg (by unfold DiscK; omega), if_pos hk] at h
  exact ⟨(congrArg Prod.fst h).symm, (congrArg Prod.snd h).symm⟩
theorem rdFeat_area {l : List Int} {f : Feat} {t : List Int} (h : rdFeat l = (f, t)) (hk : ¬ DiscK (l.getD 1 0)) (hk4 : ¬ l.getD 1 0 = 4) : f = ⟨l.getD 0 0, l.getD 1 0, 0, 0, 0, (getL rdPt 24 (l.drop 4)).1, l.getD 3 0, l.getD 2 0, []⟩ ∧ t = (getL rdPt 24 (l.drop 4)).2 := by
  unfold rdFeat at h
  rw [if_neg hk, if_neg hk4] at h
  exact ⟨(congrArg Prod.fst h).symm, (congrArg Prod.snd h).symm⟩
theorem getD_drop' (l : List Int) (i j : Nat) : (l.drop i).getD j 0 = l.getD (i + j) 0 := by simp [List.getD]
set_option maxHeartbeats 8000000 in
theorem shFrom3_at (w0 : World) (br bn bp : Nat) (l : List Int) (w : World) (h : RestAt w0 br w l) (hf : w.heap[bn]? = some (.cells #[nextV br] 141 (0, 0))) (hp : w.heap[bp]? = some (.cells #[pointV bn] 142 (0, 0))) (hne : bn ≠ br) (hpe : bp ≠ br) {f : Feat} {t : List Int} (hs : rdFeat l = (f, t)) :
    Calls Tryz.prog 117 #[.pointer (some ⟨bn, 0, none⟩), .pointer (some ⟨bp, 0, none⟩)] w (ReadF w0 br f t w) := by
  have hbr := h.lt
  have hw0 : w0.heap.size ≤ w.heap.size := by obtain ⟨_, _, _, _, h3, _⟩ := h; exact h3.size
  obtain ⟨l1, hl1⟩ : ∃ t, l.drop 1 = t := ⟨_, rfl⟩
  obtain ⟨l2, hl2⟩ : ∃ t, l1.drop 1 = t := ⟨_, rfl⟩
  obtain ⟨l3, hl3⟩ : ∃ t, l2.drop 1 = t := ⟨_, rfl⟩
  have d1 : l.drop 1 = l1 := hl1
  have d2 : l.drop 2 = l2 := by rw [← hl2, ← hl1, List.drop_drop]
  have d3 : l.drop 3 = l3 := by rw [← hl3, ← d2, List.drop_drop]
  obtain ⟨v0, hv0⟩ : ∃ x, l.getD 0 0 = x := ⟨_, rfl⟩
  obtain ⟨v1, hv1⟩ : ∃ x, l.getD 1 0 = x := ⟨_, rfl⟩
  obtain ⟨v2, hv2⟩ : ∃ x, l.getD 2 0 = x := ⟨_, rfl⟩
  have K0 := Lib.hid hv0
  have M0 := Lib.hid hl1
  have K1 := Lib.hid (show l1.getD 0 0 = v1 by rw [← hv1, ← d1, getD_drop'])
  have M1 := Lib.hid hl2
  have K2 := Lib.hid (show l2.getD 0 0 = v2 by rw [← hv2, ← d2, getD_drop'])
  have M2 := Lib.hid hl3
  have D3 := Lib.hid d3
  have V0 := Lib.hid hv0
  have V1 := Lib.hid hv1
  have V2 := Lib.hid hv2
  have hbn := lt_block hf
  have hbp := lt_block hp
  have qn := cellsL hf
  have ha := fun o => (Below.refl w.heap.size w).alloc (Nat.le_refl _) o
  have HR := Lib.hid h
  have HF := Lib.hid hf
  have HP := Lib.hid hp
  have HS := Lib.hid hs
  clear h hf hp hs hl1 hl2 hl3 hv0 hv1 hv2 d1 d2 d3
  go_enter Tryz.func117, Tryz.ntmps117
  go_wp2_with fail
  refine calls_named fun W hW => ?_
  obtain ⟨hX, hB0⟩ := box1 hW
  have hsW : w.heap.size < W.heap.size := by rw [hW]; simp
  clear hW
  have hnn := block_later hB0 HF.out
  have hpp := block_later hB0 HP.out
  clear qn ha
  have hWs := Wr.of_below (b := br) hB0
  (with_reducible refine (shFrom1_at w0 br l _ (HR.out.later hB0) K0.out M0.out).mono ?_)
  rintro e wx ⟨rfl, hR, hwx⟩
  have hX := hwx.block_ne hX (by omega)
  have hnn := hwx.block_ne hnn hne
  have hpp := hwx.block_ne hpp hpe
  have hWs := hWs.trans hwx
  have hsz := hwx.size
  have c0 := cell_block hnn 0
  clear hwx
  go_wp2_with fail
  refine wp_named fun W5 hW5 => ?_
  obtain ⟨hF, hB1⟩ := box1 hW5
  have hR := hR.later hB1
  have hX := block_later hB1 hX
  have hnn := block_later hB1 hnn
  have hpp := block_later hB1 hpp
  have hWs := hWs.trans (Wr.of_below hB1)
  obtain ⟨bF, hbF⟩ : ∃ k, wx.heap.size = k := ⟨_, rfl⟩
  rw [hbF] at hF ⊢
  have hbF1 : W.heap.size ≤ bF := by omega
  clear hbF hB1
  clear hW5
  refine wp_region_planS (NxS br bn w) (.take 0 (.take 1 (.only 0 (.take 1 (.only 0 (.only 0 (.take 0 (.only 0 .done)))))))) (by kernel_rfl) (by kernel_rfl) (⟨hWs.past (Below.refl _ _).drew, hnn⟩) (fun hP => ?_)
  have hR := hR.past (Below.refl W5.heap.size W5).drew hR.lt
  have hF := block_later (Below.refl W5.heap.size W5).drew hF
  have hX := block_later (Below.refl W5.heap.size W5).drew hX
  have hpp := block_later (Below.refl W5.heap.size W5).drew hpp
  clear hnn hWs
  generalize hWd : World.drew W5 = Wd at hP hR hF hX hpp ⊢
  clear hWd
  repeat' (first
    | (refine wsPlan_two ?_ ?_)
    | (refine wsPlan_three ?_ ?_ ?_)
    | (refine wsPlan_take rfl (fun K hK => ?_); replace hK := Lib.hid hK; go_simp; first | (refine hK.out _ ?_; clear hK K) | (apply Exists.intro; refine ⟨fun w' hw => ?_, hK.out _ ?_⟩; (first | with_reducible exact rfl | (have hnq := hw.2; have kn := cell_block hnq 0; go_simp; exact rfl)); clear hK K))
    | (refine wsPlan_only rfl (fun K hK => ?_); replace hK := Lib.hid hK; (first | (go_simp; (go_at_call 113; (first | ((with_reducible refine (shFrom1_at w0 br l1 _ hR K1.out M1.out).mono ?_); rintro e wx ⟨rfl, hR, hwx⟩; have hP := hP.wr hwx hne; have hF := hwx.block_ne hF (by omega); have hX := hwx.block_ne hX (by omega); have hpp := hwx.block_ne hpp hpe) | ((with_reducible refine (shFrom1_at w0 br l2 _ hR K2.out M2.out).mono ?_); rintro e wx ⟨rfl, hR, hwx⟩; have hP := hP.wr hwx hne; have hF := hwx.block_ne hF (by omega); have hX := hwx.block_ne hX (by omega); have hpp := hwx.block_ne hpp hpe)))) | (have fF := free_block hF; have uF := cell_block hF; go_simp; generalize hwn : World.setCell _ _ _ = wn; obtain ⟨hF, ho, hr, hw⟩ := one_set (w0 := w0) (br := br) hwn.symm hF; simp only [List.setIfInBounds_toArray, List.set_cons_succ, List.set_cons_zero] at hF; have hX := ho _ _ (by omega) hX; have hpp := ho _ _ (by omega) hpp; have hR := hr _ hR (by omega) (by omega); have hP : NxS br bn w wn := ⟨hw _ hP.1 (by omega), ho _ _ (by omega) hP.2⟩; clear hwn ho hr hw) | (go_simp; first | skip)); refine hK.out _ _ (by first | assumption | exact hP) (fun hP => ?_); clear hK K))
  all_goals refine wsPlan_done ?_
  have hWs := hP.1
  have hnn := hP.2
  have hsz := hWs.size
  clear hP
  have uF := cell_block hF
  have c0 := cell_block hpp 0
  have fF := free_block hF
  have H3 : ∀ i, l.getD (3 + i) 0 = l3.getD i 0 := fun i => by rw [← D3.out, getD_drop']
  have H3 := Lib.hid H3
  have E5 : ∀ l5, l3.drop 2 = l5 → l.drop 5 = l5 := fun l5 h => by rw [← h, ← D3.out, List.drop_drop]
  have E5 := Lib.hid E5
  have E4 : ∀ l4, l3.drop 1 = l4 → l.drop 4 = l4 := fun l4 h => by rw [← h, ← D3.out, List.drop_drop]
  have E4 := Lib.hid E4
  obtain ⟨x, hx⟩ : ∃ z, l3.getD 0 0 = z := ⟨_, rfl⟩
  obtain ⟨y, hy⟩ : ∃ z, l3.getD 1 0 = z := ⟨_, rfl⟩
  obtain ⟨l5, hl5⟩ : ∃ z, l3.drop 2 = z := ⟨_, rfl⟩
  have X3 := Lib.hid hx
  have Y3 := Lib.hid hy
  have L5 := Lib.hid hl5
  clear hx hy hl5
  by_cases hd : DiscK v1
  · obtain ⟨rad, hrad⟩ : ∃ z, l5.getD 0 0 = z := ⟨_, rfl⟩
    obtain ⟨l6, hl6⟩ : ∃ z, l5.drop 1 = z := ⟨_, rfl⟩
    obtain ⟨dep, hdep⟩ : ∃ z, l6.getD 0 0 = z := ⟨_, rfl⟩
    obtain ⟨l7, hl7⟩ : ∃ z, l6.drop 1 = z := ⟨_, rfl⟩
    have K5 := Lib.hid hrad
    have M5 := Lib.hid hl6
    have K6 := Lib.hid hdep
    have M6 := Lib.hid hl7
    have HFT : Hid (f = ⟨v0, v1, x, y, rad, [], dep, v2, []⟩ ∧ t = l7) := Lib.hid (by
      obtain ⟨e, et⟩ := rdFeat_disc HS.out (by rw [V1.out]; exact hd)
      rw [e, et, V0.out, V1.out, V2.out, H3.out 0, H3.out 1, H3.out 2, H3.out 3, X3.out, Y3.out, ← hrad, ← hdep, ← hl7, ← hl6, ← L5.out, ← D3.out]
      simp)
    clear hrad hl6 hdep hl7 HS
    go_wp2_with fail
    (with_reducible refine (shdisc_any v1 _ (decide_eq_true hd)).mono ?_)
    rintro e w2 ⟨rfl, hbx⟩
    have hF := block_later hbx hF
    have hX := block_later hbx hX
    have hsz := hbx.size
    have hWs := hWs.trans (Wr.of_below hbx)
    have hR := hR.later hbx
    have hnn := block_later hbx hnn
    have hpp := block_later hbx hpp
    have c0 := cell_block hpp 0
    have fF := free_block hF
    have uF := cell_block hF
    clear hbx
    go_wp2_with fail
    (with_reducible refine (shFrom2_at w0 br bn l3 _ hR hnn hne X3.out Y3.out L5.out).mono ?_)
    rintro e w3 ⟨rfl, hR, hwx⟩
    have hF := hwx.block_ne hF (by omega)
    have hX := hwx.block_ne hX (by omega)
    have hsz := hwx.size
    have hWs := hWs.trans hwx
    have hnn := hwx.block_ne hnn hne
    have hpp := hwx.block_ne hpp hpe
    have fF := free_block hF
    have uF := cell_block hF
    clear hwx
    go_wp2_with fail
    refine wp_named fun W5 hW5 => ?_
    obtain ⟨hF, ho, hr, hw⟩ := two_set (w0 := w0) (br := br) hW5 hF
    simp only [List.setIfInBounds_toArray, List.set_cons_succ, List.set_cons_zero] at hF
    have hX := ho _ _ (by omega) hX
    have hnn := ho _ _ (by omega) hnn
    have hpp := ho _ _ (by omega) hpp
    have hR := hr _ hR (by omega) (by omega)
    have hWs := hw _ hWs (by omega)
    clear ho hr hw
    clear hW5
    refine wp_region_planS (NxS br bn w) (.take 0 (.take 1 (.only 0 (.take 1 (.only 0 (.only 0 (.take 0 (.only 0 .done)))))))) (by kernel_rfl) (by kernel_rfl) (⟨hWs.past (Below.refl _ _).drew, hnn⟩) (fun hP => ?_)
    have hR := hR.past (Below.refl W5.heap.size W5).drew hR.lt
    have hF := block_later (Below.refl W5.heap.size W5).drew hF
    have hX := block_later (Below.refl W5.heap.size W5).drew hX
    have hpp := block_later (Below.refl W5.heap.size W5).drew hpp
    clear hnn hWs
    generalize hWd : World.drew W5 = Wd at hP hR hF hX hpp ⊢
    clear hWd
    repeat' (first
      | (refine wsPlan_two ?_ ?_)
      | (refine wsPlan_three ?_ ?_ ?_)
      | (refine wsPlan_take rfl (fun K hK => ?_); replace hK := Lib.hid hK; go_simp; first | (refine hK.out _ ?_; clear hK K) | (apply Exists.intro; refine ⟨fun w' hw => ?_, hK.out _ ?_⟩; (first | with_reducible exact rfl | (have hnq := hw.2; have kn := cell_block hnq 0; go_simp; exact rfl)); clear hK K))
      | (refine wsPlan_only rfl (fun K hK => ?_); replace hK := Lib.hid hK; (first | (go_simp; (go_at_call 113; (first | ((with_reducible refine (shFrom1_at w0 br l5 _ hR K5.out M5.out).mono ?_); rintro e wx ⟨rfl, hR, hwx⟩; have hP := hP.wr hwx hne; have hF := hwx.block_ne hF (by omega); have hX := hwx.block_ne hX (by omega); have hpp := hwx.block_ne hpp hpe) | ((with_reducible refine (shFrom1_at w0 br l6 _ hR K6.out M6.out).mono ?_); rintro e wx ⟨rfl, hR, hwx⟩; have hP := hP.wr hwx hne; have hF := hwx.block_ne hF (by omega); have hX := hwx.block_ne hX (by omega); have hpp := hwx.block_ne hpp hpe)))) | (have fF := free_block hF; have uF := cell_block hF; go_simp; generalize hwn : World.setCell _ _ _ = wn; obtain ⟨hF, ho, hr, hw⟩ := one_set (w0 := w0) (br := br) hwn.symm hF; simp only [List.setIfInBounds_toArray, List.set_cons_succ, List.set_cons_zero] at hF; have hX := ho _ _ (by omega) hX; have hpp := ho _ _ (by omega) hpp; have hR := hr _ hR (by omega) (by omega); have hP : NxS br bn w wn := ⟨hw _ hP.1 (by omega), ho _ _ (by omega) hP.2⟩; clear hwn ho hr hw) | (go_simp; first | skip)); refine hK.out _ _ (by first | assumption | exact hP) (fun hP => ?_); clear hK K))
    all_goals refine wsPlan_done ?_
    have hWs := hP.1
    have hnn := hP.2
    have hsz := hWs.size
    clear hP
    have uF := cell_block hF
    have fX := free_block hX
    have uX := cell_block hX
    go_wp2_with fail
    generalize hwn : World.setCell (World.setCell (World.setCell (World.setCell (World.setCell (World.setCell (World.setCell (World.setCell (World.setCell _ _ _) _ _) _ _) _ _) _ _) _ _) _ _) _ _) _ _ = wn
    obtain ⟨hX, ho, hr, hw⟩ := feat_set (w0 := w0) (br := br) hwn.symm hX
    have hR := hr _ hR (by omega) (by omega)
    have hWs := hw _ hWs (by omega)
    have c9 := cell_block hX
    obtain ⟨ef, et⟩ := HFT.out
    subst ef
    rw [et]
    exact bodyPost_ret (v := (featV ⟨v0, v1, x, y, rad, [], dep, v2, []⟩ (.slice none 0 0) (.slice none 0 0))) (by simp [results, Tryz.results117, go_sem, c9]) rfl ⟨none, 0, none, 0, rfl, own_nil _ _ _ _, own_nil _ _ _ _, hR, hWs⟩
  · by_cases hk4 : v1 = 4
    · subst hk4
      obtain ⟨ss, hss⟩ : ∃ ss, (getL rdSec 12 l5).1 = ss := ⟨_, rfl⟩
      have HFT : Hid (f = ⟨v0, 4, x, y, 0, [], 0, v2, ss⟩ ∧ getL rdSec 12 l5 = (ss, t)) := Lib.hid (by
        obtain ⟨e, et⟩ := rdFeat_light HS.out V1.out
        rw [E5.out _ L5.out] at e et
        rw [hss] at e
        rw [e, V0.out, V1.out, V2.out, H3.out 0, H3.out 1, X3.out, Y3.out, et, ← hss]
        exact ⟨rfl, rfl⟩)
      clear HS hss
      go_wp2_with fail
      (with_reducible refine (shdisc_any 4 _ (decide_eq_false hd)).mono ?_)
      rintro e w2 ⟨rfl, hbx⟩
      have hF := block_later hbx hF
      have hX := block_later hbx hX
      have hsz := hbx.size
      have hWs := hWs.trans (Wr.of_below hbx)
      have hR := hR.later hbx
      have hnn := block_later hbx hnn
      have hpp := block_later hbx hpp
      have c0 := cell_block hpp 0
      have fF := free_block hF
      have uF := cell_block hF
      clear hbx
      go_wp2_with fail
      (with_reducible refine (shFrom2_at w0 br bn l3 _ hR hnn hne X3.out Y3.out L5.out).mono ?_)
      rintro e w3 ⟨rfl, hR, hwx⟩
      have hF := hwx.block_ne hF (by omega)
      have hX := hwx.block_ne hX (by omega)
      have hsz := hwx.size
      have hWs := hWs.trans hwx
      have hnn := hwx.block_ne hnn hne
      have hpp := hwx.block_ne hpp hpe
      have fF := free_block hF
      have uF := cell_block hF
      have c0 := cell_block hnn 0
      clear hwx
      go_wp2_with fail
      refine calls_named fun W5 hW5 => ?_
      obtain ⟨hF, ho, hr, hw⟩ := two_set (w0 := w0) (br := br) hW5 hF
      simp only [List.setIfInBounds_toArray, List.set_cons_succ, List.set_cons_zero] at hF
      have hX := ho _ _ (by omega) hX
      have hnn := ho _ _ (by omega) hnn
      have hpp := ho _ _ (by omega) hpp
      have hR := hr _ hR (by omega) (by omega)
      have hWs := hw _ hWs (by omega)
      clear ho hr hw
      (with_reducible refine (shgetS_any w0 br bn bp l5 _ hR hnn hpp hne hpe HFT.out.2).mono ?_)
      rintro e w5 ⟨ab, cb, rfl, hos, hR, hwx⟩
      have hsz5 := hWs.size
      have hF := hwx.block_ne hF (by omega)
      have hX := hwx.block_ne hX (by omega)
      have hsz := hwx.size
      have hWs := hWs.trans hwx
      have hnn := hwx.block_ne hnn hne
      have hpp := hwx.block_ne hpp hpe
      have fF := free_block hF
      have uF := cell_block hF
      have fX := free_block hX
      have uX := cell_block hX
      clear hwx
      go_wp2_with fail
      generalize hwn : World.setCell (World.setCell (World.setCell (World.setCell (World.setCell (World.setCell (World.setCell (World.setCell (World.setCell _ _ _) _ _) _ _) _ _) _ _) _ _) _ _) _ _) _ _ = wn
      obtain ⟨hF', ho, hr, hw⟩ := one_set (w0 := w0) (br := br) (i := 8) (x := .slice ab ss.length cb) rfl hF
      have hX := ho _ _ (by omega) hX
      have hR := hr _ hR (by omega) (by omega)
      have hWs := hw _ hWs (by omega)
      have hos := own_ho (own_mono hos hsz5) hF (by decide) ho
      clear ho hr hw
      obtain ⟨hX', ho, hr, hw⟩ := feat_set (w0 := w0) (br := br) hwn.symm hX
      have hR := hr _ hR (by omega) (by omega)
      have hWs := hw _ hWs (by omega)
      have hos := own_ho hos hX (by decide) ho
      have c9 := cell_block hX'

      obtain ⟨ef, et⟩ := HFT.out
      subst ef
      exact bodyPost_ret (v := (featV ⟨v0, 4, x, y, 0, [], 0, v2, ss⟩ (.slice none 0 0) (.slice ab ss.length cb))) (by simp [results, Tryz.results117, go_sem, c9]) rfl ⟨none, 0, ab, cb, rfl, own_nil _ _ _ _, hos, hR, hWs⟩
    · obtain ⟨l4, hl4⟩ : ∃ z, l3.drop 1 = z := ⟨_, rfl⟩
      have L4 := Lib.hid hl4
      obtain ⟨ps, hps⟩ : ∃ ss, (getL rdPt 24 l4).1 = ss := ⟨_, rfl⟩
      have HFT : Hid (f = ⟨v0, v1, 0, 0, 0, ps, x, v2, []⟩ ∧ getL rdPt 24 l4 = (ps, t)) := Lib.hid (by
        obtain ⟨e, et⟩ := rdFeat_area HS.out (by rw [V1.out]; exact hd) (by rw [V1.out]; exact hk4)
        rw [E4.out _ L4.out] at e et
        rw [hps] at e
        rw [e, V0.out, V1.out, V2.out, H3.out 0, X3.out, et, ← hps]
        exact ⟨rfl, rfl⟩)
      clear HS hps hl4
      go_wp2_with fail
      (with_reducible refine (shdisc_any v1 _ (decide_eq_false hd)).mono ?_)
      rintro e w2 ⟨rfl, hbx⟩
      have hF := block_later hbx hF
      have hX := block_later hbx hX
      have hsz := hbx.size
      have hWs := hWs.trans (Wr.of_below hbx)
      have hR := hR.later hbx
      have hnn := block_later hbx hnn
      have hpp := block_later hbx hpp
      have c0 := cell_block hnn 0
      have fF := free_block hF
      have uF := cell_block hF
      clear hbx
      go_wp2_with fail
      (with_reducible refine (shFrom1_at w0 br l3 _ hR X3.out L4.out).mono ?_)
      rintro e w3 ⟨rfl, hR, hwx⟩
      have hF := hwx.block_ne hF (by omega)
      have hX := hwx.block_ne hX (by omega)
      have hsz := hwx.size
      have hWs := hWs.trans hwx
      have hnn := hwx.block_ne hnn hne
      have hpp := hwx.block_ne hpp hpe
      have fF := free_block hF
      have uF := cell_block hF
      have c0 := cell_block hnn 0
      have c1 := cell_block hpp 0
      clear hwx
      go_wp2_with fail
      refine calls_named fun W5 hW5 => ?_
      obtain ⟨hF, ho, hr, hw⟩ := one_set (w0 := w0) (br := br) hW5 hF
      simp only [List.setIfInBounds_toArray, List.set_cons_succ, List.set_cons_zero] at hF
      have hX := ho _ _ (by omega) hX
      have hnn := ho _ _ (by omega) hnn
      have hpp := ho _ _ (by omega) hpp
      have hR := hr _ hR (by omega) (by omega)
      have hWs := hw _ hWs (by omega)
      clear ho hr hw
      (with_reducible refine (shgetP_any w0 br bn l4 _ hR hnn hne HFT.out.2).mono ?_)
      rintro e w5 ⟨ab, cb, rfl, hos, hR, hwx⟩
      have hsz5 := hWs.size
      have hF := hwx.block_ne hF (by omega)
      have hX := hwx.block_ne hX (by omega)
      have hsz := hwx.size
      have hWs := hWs.trans hwx
      have hnn := hwx.block_ne hnn hne
      have hpp := hwx.block_ne hpp hpe
      have fF := free_block hF
      have uF := cell_block hF
      have fX := free_block hX
      have uX := cell_block hX
      clear hwx
      go_wp2_with fail
      generalize hwn : World.setCell (World.setCell (World.setCell (World.setCell (World.setCell (World.setCell (World.setCell (World.setCell (World.setCell _ _ _) _ _) _ _) _ _) _ _) _ _) _ _) _ _) _ _ = wn
      obtain ⟨hF', ho, hr, hw⟩ := one_set (w0 := w0) (br := br) (i := 5) (x := .slice ab ps.length cb) rfl hF
      have hX := ho _ _ (by omega) hX
      have hR := hr _ hR (by omega) (by omega)
      have hWs := hw _ hWs (by omega)
      have hos := own_ho (own_mono hos hsz5) hF (by decide) ho
      clear ho hr hw
      obtain ⟨hX', ho, hr, hw⟩ := feat_set (w0 := w0) (br := br) hwn.symm hX
      have hR := hr _ hR (by omega) (by omega)
      have hWs := hw _ hWs (by omega)
      have hos := own_ho hos hX (by decide) ho
      have c9 := cell_block hX'

      obtain ⟨ef, et⟩ := HFT.out
      subst ef
      exact bodyPost_ret (v := (featV ⟨v0, v1, 0, 0, 0, ps, x, v2, []⟩ (.slice ab ps.length cb) (.slice none 0 0))) (by simp [results, Tryz.results117, go_sem, c9]) rfl ⟨ab, cb, none, 0, rfl, hos, own_nil _ _ _ _, hR, hWs⟩
end Go.Proofs.YtdmegkkifiahdaaGreat
