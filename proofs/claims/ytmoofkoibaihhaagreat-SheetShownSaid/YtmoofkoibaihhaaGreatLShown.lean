/- For any sheet, any place and any numbers: the statement SheetShown of chapter 14 (no feature that covers a place has a lesser depth than the one shown there, unless it is the cap; a sheet without one of its features, or with a greater cap, shows nowhere less): the law's function returns true and leaves its arguments as they were. No condition. -/
import Derived.Test.YtmoofkoibaihhaaGreatShtO
import Derived.Test.YtmoofkoibaihhaaGreatFrameH
import Derived.Test.YtmoofkoibaihhaaGreatAppF
namespace Go.Proofs.YtmoofkoibaihhaaGreat
open Go.ChangeShapes Go.WideShapes Go.ChangeAt Go.RowKit
attribute [local go_sem] bqOp bqAll bqUpon sqOp sqAll sqUpon ssOp ssAll
attribute [local irreducible] wpQuiet wpBQ wpPlan wsPlan
set_option linter.unusedVariables false
def foundB (s : Sht) (px py m : Int) : Nat → Bool
  | 0 => m == s.cap
  | k + 1 => foundB s px py m k || (covB (s.feats.getD k noFeat) px py && ((s.feats.getD k noFeat).dep == m))
theorem found_cap {s : Sht} {px py m : Int} (h : m = s.cap) : ∀ k, foundB s px py m k = true
  | 0 => by simp [foundB, h]
  | k + 1 => by simp [foundB, found_cap h k]
theorem found_at {s : Sht} {px py m : Int} {i : Nat} (hc : covB (s.feats.getD i noFeat) px py = true) (hd : (s.feats.getD i noFeat).dep = m) : ∀ k, i < k → foundB s px py m k = true
  | 0, h => absurd h (Nat.not_lt_zero i)
  | k + 1, h => by
    rcases Nat.lt_or_ge i k with h' | h'
    · simp [foundB, found_at hc hd k h']
    · obtain rfl : i = k := by omega
      unfold foundB
      rw [hc, hd]
      simp
theorem found_all {s : Sht} (hs : ShtOk s) {px py m : Int} (hm : shownS s px py = m) : foundB s px py m s.feats.length = true := by
  unfold shownS at hm
  have hcap : s.cap ≤ 100000 := hs.2.2.2.2.2.1.2
  rcases Int.lt_or_le (shownI s.feats px py s.feats.length) s.cap with h | h
  · rcases shown_at s.feats px py s.feats.length with h1 | ⟨i, hi, hc, hd⟩
    · omega
    · exact found_at hc (by rw [← hd, ← hm]; omega) _ hi
  · exact found_cap (by omega) _
theorem shown_low {s : Sht} {px py m : Int} (hm : shownS s px py = m) {i : Nat} (hi : i < s.feats.length) (hc : covB (s.feats.getD i noFeat) px py = true) : m ≤ (s.feats.getD i noFeat).dep := by
  have := (shown_le s.feats px py s.feats.length).2 i hi hc
  unfold shownS at hm
  omega
theorem shown_cap {s : Sht} {px py m : Int} (hm : shownS s px py = m) : m ≤ s.cap := by
  unfold shownS at hm
  omega
theorem cap_ok {s : Sht} (hs : ShtOk s) {c : Int} (h1 : s.cap ≤ c) (h2 : c ≤ 100000) : ShtOk { s with cap := c } :=
  ⟨hs.1, hs.2.1, hs.2.2.1, hs.2.2.2.1, hs.2.2.2.2.1, ⟨by have := hs.2.2.2.2.2.1.1; show 1 ≤ c; omega, h2⟩, hs.2.2.2.2.2.2⟩
theorem cap_more {s : Sht} {px py m g c : Int} (hm : shownS s px py = m) (h1 : s.cap ≤ c) (hg : shownS { s with cap := c } px py = g) : m ≤ g := by
  unfold shownS at hm hg
  simp only at hg
  omega
/-- A list of features without one of them is one, too. -/
theorem cutF_get {l : List Feat} {k i : Nat} (hk : k < l.length) : (l.take k ++ l.drop (k + 1)).getD i noFeat = l.getD (if i < k then i else i + 1) noFeat := by
  rw [List.getD_eq_getElem?_getD, List.getD_eq_getElem?_getD]
  congr 1
  have hlt : (l.take k).length = k := by rw [List.length_take]; omega
  split
  · next h => rw [List.getElem?_append_left (by omega), List.getElem?_take_of_lt h]
  · next h => rw [List.getElem?_append_right (by omega), hlt, List.getElem?_drop]; congr 1; omega
theorem ups_feats {l : List Feat} (h : FeatsOk l) {i j : Nat} (hij : i < j) (hj : j < l.length) : (l.getD i noFeat).id < (l.getD j noFeat).id := ids_lt (idsUp_of h) hij hj
theorem cutF_ok {l : List Feat} (h : FeatsOk l) {k : Nat} (hk : k < l.length) : FeatsOk (l.take k ++ l.drop (k + 1)) := by
  have hlen : (l.take k ++ l.drop (k + 1)).length = l.length - 1 := by rw [List.length_append, List.length_take, List.length_drop]; omega
  refine ⟨by have := h.1; omega, fun i hi => ?_⟩
  rw [hlen] at hi
  have hpos : ∀ j, j < l.length → 1 ≤ (l.getD j noFeat).id := fun j hj => (feat_id h hj rfl).1
  refine ⟨by rw [cutF_get hk]; exact (h.2 _ (by split <;> omega)).1, ?_⟩
  rw [cutF_get hk]
  cases i with
  | zero => exact hpos _ (by split <;> omega)
  | succ i =>
    show ((l.take k ++ l.drop (k + 1)).getD i noFeat).id < _
    rw [cutF_get hk]
    exact ups_feats h (by split <;> split <;> omega) (by split <;> omega)
theorem cutF_more {s : Sht} {px py m g : Int} {k : Nat} (hm : shownS s px py = m) (hg : shownS { s with feats := s.feats.take k ++ s.feats.drop (k + 1) } px py = g) : m ≤ g := by
  have h := shown_mono (l := s.feats) (m := s.feats.take k ++ s.feats.drop (k + 1)) (qx := px) (qy := py) (fun f hf _ => by
    rcases List.mem_append.1 hf with h | h
    · exact List.mem_of_mem_take h
    · exact List.mem_of_mem_drop h)
  unfold shownS at hm hg
  simp only at hg
  omega
set_option maxRecDepth 100000 in
set_option maxHeartbeats 8000000 in
theorem sheetShown_walk {s : Sht} {ads afs : Option Addr} {cds cfs : Nat} (px py : Int) (ix : Int) (more : Int) {w : World} (hds : IntsAt w (.slice ads s.don.length cds) s.don) (hfs : FeatsAt w (.slice afs s.feats.length cfs) s.feats) (ws : I64 s.edition ∧ I64 s.cap) (wix : (Lit.int .u8 ix).wf = true) (wmore : (Lit.int .u16 more).wf = true) :
    Calls Tryz.prog 7 #[shtV s (.slice ads s.don.length cds) (.slice afs s.feats.length cfs), .agg #[.int .i64 px, .int .i64 py], .int .u8 ix, .int .u16 more] w fun e w' => e = .returned (.bool true) ∧ Below w.heap.size w w' := by
  have HDs := Lib.hid hds
  have HFs := Lib.hid hfs
  have WSs := Lib.hid ws
  clear hds hfs ws
  have hi0 : 0 ≤ ix := by simp [Lit.wf, IntKind.min, IntKind.max, IntKind.bits, IntKind.signed] at wix; omega
  have hi1 : ix ≤ 255 := by simp [Lit.wf, IntKind.min, IntKind.max, IntKind.bits, IntKind.signed] at wix; omega
  have hm0 : 0 ≤ more := by simp [Lit.wf, IntKind.min, IntKind.max, IntKind.bits, IntKind.signed] at wmore; omega
  have hm1 : more ≤ 65535 := by simp [Lit.wf, IntKind.min, IntKind.max, IntKind.bits, IntKind.signed] at wmore; omega
  clear wix wmore
  obtain ⟨os, hos⟩ : ∃ v, decide (ShtOk s ∧ Vld px py) = v := ⟨_, rfl⟩
  have OS := Lib.hid hos
  obtain ⟨m, em, hm⟩ : ∃ m em, shownQ s px py os = (m, em) := ⟨_, _, rfl⟩
  have HM := Lib.hid hm
  clear hos hm
  go_enter Tryz.func7, Tryz.ntmps7
  go_wp2_with fail
  refine calls_named fun W hW => ?_
  obtain ⟨p1, p2, hB⟩ := box2 hW
  clear hW
  have P1 := Lib.hid p1
  clear p1
  have q1 := cellsL P1.out
  have P2 := Lib.hid p2
  clear p2
  have q2 := cellsL P2.out
  (with_reducible refine (head14_true _).mono ?_)
  rintro e w1 ⟨rfl, hB1⟩
  have hC1 := below_step hB hB1
  go_wp2_with fail
  (with_reducible refine (shShown_any s _ _ px py _ (intsL HDs.out hC1) (HFs.out.later hC1) OS.out HM.out).mono ?_)
  rintro e w2 ⟨rfl, hb2⟩
  have hB2 := below_step hB1 hb2
  have hC2 := below_step hB hB2
  cases os
  · obtain ⟨rfl, rfl⟩ : (0 : Int) = m ∧ (1 : Int) = em := by simpa [shownQ] using HM.out
    go_wp2_with fail
    go_returns
    exact ⟨rfl, hC2⟩
  obtain rfl : (0 : Int) = em := by have := HM.out; simp only [shownQ, Prod.mk.injEq] at this; exact this.2
  have SH : Hid (shownS s px py = m) := Lib.hid (by have := HM.out; simp only [shownQ, Prod.mk.injEq] at this; exact this.1)
  have OK := Lib.hid (of_decide_eq_true OS.out)
  have hvp := OK.out.2
  clear HM OS
  go_wp2_with fail
  obtain ⟨vs, hvs⟩ : ∃ v, decide (FewS s) = v := ⟨_, rfl⟩
  have HVs := Lib.hid hvs
  clear hvs
  (with_reducible refine (q14Few_any s _ _ _ (intsL HDs.out hC2) (HFs.out.later hC2) HVs.out).mono ?_)
  rintro e w3 ⟨rfl, hb3⟩
  have hB3 := below_step hB2 hb3
  have hC3 := below_step hB hB3
  cases vs
  · go_wp2_with fail
    go_returns
    exact ⟨rfl, hC3⟩
  have hs300 := OK.out.1.2.2.2.2.2.2.2.1
  have cap0 : 1 ≤ s.cap := OK.out.1.2.2.2.2.2.1.1
  have cap1 : s.cap ≤ 100000 := OK.out.1.2.2.2.2.2.1.2
  go_wp2_with fail
  go_loopw [9, 12, 13] (fun up fd i wr => ∃ k : Nat, k ≤ s.feats.length ∧ i = .int .i64 k ∧ up = .bool true ∧ fd = .bool (foundB s px py m k) ∧ Below w3.heap.size w3 wr) (fun _ _ i _ => s.feats.length - (intOf i).toNat)
  case atStart => exact ⟨0, by omega, rfl, rfl, rfl, Below.refl _ _⟩
  case round =>
    obtain ⟨k, hk, rfl, rfl, rfl, hb⟩ := hrel
    have hBr := below_step hB3 hb
    have hCr := below_step hC3 hb
    rcases Nat.lt_or_ge k s.feats.length with hlt | hge
    rotate_left
    · obtain rfl : k = s.feats.length := by omega
      rw [found_all OK.out.1 SH.out]
      have af := fun o => hBr.alloc hBr.size o
      go_wp2_with fail
  
      refine calls_named fun w20 hw => ?_
      obtain ⟨p20, hb20⟩ := box1 hw
      clear hw
      have hB20 := below_step hBr hb20
      have hC20 := below_step hCr hb20
      have Q20 := Lib.hid p20
      clear p20
      have HVP := Lib.hid hvp
      obtain ⟨c2, hc2⟩ : ∃ c, min 100000 (s.cap + more) = c := ⟨_, rfl⟩
      rw [hc2] at Q20 ⊢
      have hca : s.cap ≤ c2 := by omega
      have hcb : c2 ≤ 100000 := by omega
      clear hc2
      obtain ⟨g2, hg2⟩ : ∃ g, shownS { s with cap := c2 } px py = g := ⟨_, rfl⟩
      have hmg := cap_more SH.out hca hg2
      have hms := shown_cap SH.out
      have HG2 : Hid (shownQ { s with cap := c2 } px py true = (g2, 0)) := Lib.hid (by rw [← hg2]; rfl)
      clear hg2
      have OC : Hid (decide (ShtOk { s with cap := c2 } ∧ Vld px py) = true) := Lib.hid (decide_eq_true ⟨cap_ok OK.out.1 hca hcb, HVP.out⟩)
      (with_reducible refine (shShown_any { s with cap := c2 } _ _ px py _ (intsL HDs.out hC20) (HFs.out.later hC20) OC.out HG2.out).mono ?_)
      rintro e w21 ⟨rfl, hb21⟩
      have hB21 := below_step hB20 hb21
      have hC21 := below_step hC20 hb21
      have Q21 := Lib.hid (block_later hb21 Q20.out)
      have f21 := free_block Q21.out
      have k21 := cell_block Q21.out
      rcases Nat.eq_zero_or_pos s.feats.length with hz | hz
      · have hz2 : ((s.feats.length : Int) == 0) = true := by rw [hz]; rfl
        have HZ := Lib.hid hz
        clear hz
        go_wp2_with fail
        go_returns
        exact ⟨rfl, hC21⟩
      have hz2 : ((s.feats.length : Int) == 0) = false := beq_eq_false_iff_ne.2 (by omega)
      obtain ⟨g, o, va, vs, rfl, _⟩ := HFs.out.row hz
      have hne : (0 : Int) < (s.feats.length : Int) := by omega
      obtain ⟨k, hk, hkn⟩ : ∃ k : Nat, ix % (s.feats.length : Int) = (k : Int) ∧ k < s.feats.length := ⟨(ix % (s.feats.length : Int)).toNat, by have := Int.emod_nonneg ix (Int.ne_of_gt hne); omega, by have := Int.emod_nonneg ix (Int.ne_of_gt hne); have := Int.emod_lt_of_pos ix hne; omega⟩
      clear hne
      go_wp2_with fail
      generalize hwn : World.setCell (World.setCell (World.setCell (World.setCell (World.setCell (World.setCell (World.setCell (World.setCell (World.setCell (World.setCell (World.setCell (World.setCell (World.setCell _ _ _) _ _) _ _) _ _) _ _) _ _) _ _) _ _) _ _) _ _) _ _) _ _) _ _ = w22
      obtain ⟨p22, hbel⟩ := sht_put hwn.symm Q21.out
      clear hwn f21 k21 Q21 Q20
      have hR22 : Below wr.heap.size wr w22 := hbel _ _ (hb20.trans (hb21.mono hb20.size)) (Nat.le_refl _)
      have hB22 := below_step hBr hR22
      have hC22 := below_step hCr hR22
      have P22 := Lib.hid p22
      have hsz22 := lt_block p22
      clear p22 hbel
      obtain ⟨k1, hk1⟩ : ∃ j, k + 1 = j := ⟨_, rfl⟩
      have NT : Hid (([] ++ s.feats.take k).length + (s.feats.length - k1) = s.feats.length - 1) := Lib.hid (by rw [List.nil_append, List.length_take]; omega)
      have LT : Hid ((s.feats.take k).length = k) := Lib.hid (by rw [List.length_take]; omega)
      have LD : Hid ((s.feats.drop k1).length = s.feats.length - k1) := Lib.hid List.length_drop
      have hcap9 : s.feats.length ≤ cfs := by
        obtain ⟨_, _, e, hcc, _⟩ := HFs.out
        cases e
        exact hcc.2
      have hkc : k ≤ cfs := by omega
      have hkk : (k : Int) + 1 = (k1 : Int) := by omega
      have hkc2 : k1 ≤ cfs := by omega
      have hkc3 : k1 ≤ s.feats.length := by omega
      have hwk : IntKind.i64.wrap (k1 : Int) = (k1 : Int) := IntWalk.i64_in _ (by omega)
      have HK1 := Lib.hid hk1
      clear hk1
      refine wp_region_planS (fun w' => Below wr.heap.size wr w') (.take 1 (.take 1 (.take 1 (.take 1 (.take 2 (.take 2 (.take 2 (.take 2 (.take 2 (.only 0 (.only 0 (.only 0 (.take 0 (.only 0 .done)))))))))))))) (by kernel_rfl) (by kernel_rfl) (hR22.drew) (fun hP => ?_)
      repeat' (first
        | (refine wsPlan_two ?_ ?_)
        | (refine wsPlan_three ?_ ?_ ?_)
        | (refine wsPlan_take rfl (fun K hK => ?_); replace hK := Lib.hid hK; go_simp; first | (refine hK.out _ ?_; clear hK K) | (apply Exists.intro; refine ⟨fun w' hw => ?_, hK.out _ ?_⟩; (first | with_reducible exact rfl | (have kq := cellsL P1.out w' (below_step hBr hw); go_simp; exact rfl)); clear hK K))
        | (refine wsPlan_only rfl (fun K hK => ?_); replace hK := Lib.hid hK; (first | ((refine step_appF (by rfl) _ _ (by rfl) w22.heap.size w (.slice (some ⟨w22.heap.size, 0, none⟩) 0 0) [] (s.feats.take k) (by rfl) OW0 _ k cfs (by rfl) LT.out (feats_take HFs.out rfl (by omega)) (below_step hC22 hT0) (N := k) (by simp) (by omega) hT0.size ?_); intro ad3 c3 w3' hown3 hb3; have hT1 := hT0.trans hb3; have hbx3 := below_step hR22 hT1; clear OW0) | ((refine step_appF (by rfl) _ _ (by rfl) w22.heap.size w (.slice ad3 k c3) ([] ++ s.feats.take k) (s.feats.drop k1) (by rfl) hown3 _ (s.feats.length - k1) _ (by rfl) LD.out (feats_dropI HFs.out rfl (by omega)) (below_step hC22 hT1) NT.out (by omega) hT1.size ?_); intro ad4 c4 w4' hown4 hb4; have hT2 := hT1.trans hb4; have hbx4 := below_step hR22 hT2; clear hown3) | (have p23 := block_later hT2 P22.out; have fX := free_block p23; have uX := cell_block p23; go_simp; have Q23 := block_set (i := 12) p23 (.slice ad4 (s.feats.length - 1) c4); generalize hwn : World.setCell _ _ _ = w23 at Q23 ⊢; have hb23 : Below wr.heap.size wr w23 := (by subst hwn; exact hP.setCell (Nat.le_refl _) _); have OW : OwnFs w22.heap.size w w23 (.slice ad4 (s.feats.length - 1) c4) (([] ++ s.feats.take k) ++ s.feats.drop k1) := (by subst hwn; exact hown4.put (by omega) _)) | (go_simp; have hq := block_new w22 (Obj.cells #[] 53); have hBq := ((Below.refl w22.heap.size w22).alloc (Nat.le_refl _) (Obj.cells #[] 53)).drew; generalize hwn : World.drew (World.alloc w22 (Obj.cells #[] 53)) = wn at hBq ⊢; replace hq : wn.heap[w22.heap.size]? = some (Obj.cells #[] 53 (0, 0)) := (by subst hwn; exact hq); clear hwn; have OW0 := OwnFs.box0 w hq (Nat.le_refl _); have hT0 := hBq; have hPn := below_step hR22 hBq) | (go_simp; first | skip)); refine hK.out _ _ (by first | assumption | exact hP) (fun hP => ?_); clear hK K))
      all_goals refine wsPlan_done ?_
      simp only [List.setIfInBounds_toArray, List.set_cons_succ, List.set_cons_zero] at Q23
      have hC23 := below_step hCr hP
      have hB23 := below_step hBr hP
      have FX : Hid (FeatsAt w23 (.slice ad4 (s.feats.length - 1) c4) (s.feats.take k ++ s.feats.drop (k + 1))) := Lib.hid (by
        have h := OW.feats hC23 (by rw [List.length_append, LD.out, NT.out]; omega)
        rw [List.nil_append, ← HK1.out] at h
        exact h)
      have k23 := cell_block Q23
      clear Q23 OW
      obtain ⟨g3, hg3⟩ : ∃ g, shownS { s with feats := s.feats.take k ++ s.feats.drop (k + 1) } px py = g := ⟨_, rfl⟩
      have hmg3 := cutF_more SH.out hg3
      have HG3 : Hid (shownQ { s with feats := s.feats.take k ++ s.feats.drop (k + 1) } px py true = (g3, 0)) := Lib.hid (by rw [← hg3]; rfl)
      clear hg3
      have OC3 : Hid (decide (ShtOk { s with feats := s.feats.take k ++ s.feats.drop (k + 1) } ∧ Vld px py) = true) := Lib.hid (decide_eq_true ⟨⟨OK.out.1.1, OK.out.1.2.1, OK.out.1.2.2.1, OK.out.1.2.2.2.1, OK.out.1.2.2.2.2.1, OK.out.1.2.2.2.2.2.1, OK.out.1.2.2.2.2.2.2.1, cutF_ok OK.out.1.2.2.2.2.2.2.2 hkn⟩, HVP.out⟩)
      go_wp2_with fail
      all_goals
        (with_reducible refine (shShown_any { s with feats := s.feats.take k ++ s.feats.drop (k + 1) } _ _ px py _ (intsL HDs.out hC23) FX.out OC3.out HG3.out).mono ?_)
        rintro e w24 ⟨rfl, hb24⟩
        have hC24 := below_step hC23 hb24
        go_wp2_with fail
        all_goals
          go_returns
          exact ⟨rfl, hC24⟩
    obtain ⟨g, o, va, vs, rfl, fc⟩ := (HFs.out.later hCr).row hlt
    have hok := featOk_at OK.out.1.2.2.2.2.2.2.2 hlt
    have LOW := Lib.hid (fun hc => shown_low (i := k) SH.out hlt hc)
    have STEP : Hid (foundB s px py m (k + 1) = (foundB s px py m k || (covB (s.feats.getD k noFeat) px py && ((s.feats.getD k noFeat).dep == m)))) := Lib.hid rfl
    obtain ⟨f, hf⟩ : ∃ f, s.feats.getD k noFeat = f := ⟨_, rfl⟩
    rw [hf] at fc hok LOW STEP
    have HOK := Lib.hid hok
    clear hf hok
    obtain ⟨fb, hfb⟩ : ∃ b, foundB s px py m k = b := ⟨_, rfl⟩
    rw [hfb] at STEP ⊢
    clear hfb
    obtain ⟨c0, c1, c2, c3, c4, c5, c6, c7, c8, PA, SA⟩ := fc
    obtain ⟨aa, ca, rfl, _, _, _⟩ := Lists.form PA
    obtain ⟨ab, cb, rfl, _, _, _⟩ := Lists.form SA
    have HPA := Lib.hid PA
    have HSA := Lib.hid SA
    obtain ⟨cv, hcv⟩ : ∃ c, covB f px py = c := ⟨_, rfl⟩
    rw [hcv] at LOW STEP
    have HCV := Lib.hid hcv
    have HVP := Lib.hid hvp
    have C6 := Lib.hid c6
    have z0 := cellR1 c0
    have z1 := cellR1 c1
    have z2 := cellR1 c2
    have z3 := cellR1 c3
    have z4 := cellR1 c4
    have z5 := cellR1 c5
    have z6 := cellR1 c6
    have z7 := cellR1 c7
    have z8 := cellR1 c8
    have z9 := cellsR (block_later hBr P1.out)
    have z10 := cellsR (block_later hBr P2.out)
    clear c0 c1 c2 c3 c4 c5 c6 c7 c8 PA SA hcv hvp
    go_wp2_with fail
    clear q1 q2
    refine wp_region_plan (.take 0 (.take 0 (.take 0 (.take 0 (.take 0 (.take 0 (.only 0 (.take 0 (.take 0 (.take 0 (.take 0 (.take 0 .done)))))))))))) (by kernel_rfl) (by kernel_rfl) (fun hP => ?_)
    repeat' (first
      | (refine wpPlan_two ?_ ?_)
      | (refine wpPlan_three ?_ ?_ ?_)
      | (refine wpPlan_take rfl (fun K hK => ?_); replace hK := Lib.hid hK; go_simp; first | (refine hK.out _ ?_; clear hK K) | (apply Exists.intro; refine ⟨fun _ => ?_, hK.out _ ?_⟩; (first | with_reducible exact rfl | skip); clear hK K))
      | (refine wpPlan_only rfl (fun K hK => ?_); replace hK := Lib.hid hK; (first | (go_simp; first | (go_at_call 23; (with_reducible refine (ftCovers_yes f aa ab ca cb px py _ HOK.out (ptsL HPA.out hP) (secsL HSA.out hP) HVP.out).mono ?_); rw [HCV.out]; rintro e wx ⟨rfl, hbx⟩)) | (go_simp; first | skip)); refine hK.out _ _ (by first | assumption | exact below_step hP hbx | exact hP.drew | exact hP.alloc hP.size _) (fun hP => ?_); clear hK K))
    all_goals refine wpPlan_done ?_
    have hbR := below_step hb hP
    have hBR := below_step hBr hP
    have d6 := cell_later hP C6.out
    have q1 := cellsL P1.out
    clear z0 z1 z2 z3 z4 z5 z6 z7 z8 z9 z10
    obtain ⟨dp, hdp⟩ : ∃ d, f.dep = d := ⟨_, rfl⟩
    rw [hdp] at d6 LOW STEP
    clear hdp
    cases cv
    · cases fb
      all_goals
        go_wp2_with fail
        go_roundw
        case rel => exact ⟨k + 1, by omega, by go_num, rfl, by rw [STEP.out]; rfl, hbR⟩
        case measure => simp [intOf]; omega
    · have hlow := LOW.out rfl
      cases fb
      · obtain ⟨eb, heb⟩ : ∃ b, (dp == m) = b := ⟨_, rfl⟩
        have HEB := Lib.hid heb
        go_wp2_with fail
        go_roundw
        case rel => exact ⟨k + 1, by omega, by go_num, rfl, by rw [STEP.out, HEB.out]; rfl, hbR⟩
        case measure => simp [intOf]; omega
      · go_wp2_with fail
        go_roundw
        case rel => exact ⟨k + 1, by omega, by go_num, rfl, by rw [STEP.out]; rfl, hbR⟩
        case measure => simp [intOf]; omega
set_option maxRecDepth 100000 in
theorem sheetShown_lifted (os : Os) (started : os.Started) (H : Type) (enc : TypeId × Value → H) :
    ReturnsInHanded {} Tryz.checked os 7 .any (Rows.sheetShownSpec.pre6 enc Tryz.prog Tryz.f7 Rows.sheetShownRow.domain false) (Rows.sheetShownSpec.post enc Tryz.prog Tryz.f7 false true false false) := by
  refine returnsInHanded_of_change (C := Tryz.checked) own_knob started (by kernel_rfl) Tryz.func7
    (ChangeSpec.witness6 (enc := enc) (C := Tryz.checked) false ⟨#[], #[.agg #[.int .i64 0, .int .i64 0, .int .i64 0, .int .i64 0, .int .i64 0, .int .i64 0, .int .i64 0, .int .i64 0, .int .i64 0, .int .i64 0, .int .i64 0, .slice none 0 0, .slice none 0 0], .agg #[.int .i64 0, .int .i64 0], .int .u8 0, .int .u16 0], []⟩ 8 (by kernel_rfl) (by kernel_rfl) (by kernel_rfl) (by kernel_rfl)) ?_
  intro W base args ds gs before hval0 hW hcnd _
  have hval : ∀ (j : Nat) t v, Tryz.f7.params[j]? = some t → args[j]? = some v → Value.okWide Tryz.prog W .any base t v := hval0
  have hW' := hW
  obtain ⟨p, q, hA0, hV, rfl, hfz, hnd⟩ := hW
  have hA : DataW.TrodAll enc Tryz.prog W 0 (fun _ => true) true Tryz.f7.params.toList args.toList ds p := hA0
  rw [Tryz.params7] at hA hval
  obtain ⟨v0, vs0, d0, ds0, p0, q0, hargs, rfl, rfl, h0, r0⟩ := trodAll_cons hA
  obtain ⟨v1, vs1, d1, ds1, p1, q1, rfl, rfl, rfl, h1, r1⟩ := trodAll_cons r0
  obtain ⟨v2, vs2, d2, ds2, p2, q2, rfl, rfl, rfl, h2, r2⟩ := trodAll_cons r1
  obtain ⟨v3, vs3, d3, ds3, p3, q3, rfl, rfl, rfl, h3, r3⟩ := trodAll_cons r2
  obtain ⟨rfl, rfl, rfl⟩ := trodAll_nil r3
  obtain rfl : args = #[v0, v1, v2, v3] := by cases args; simp_all
  obtain ⟨rfl, rfl⟩ := trodVars_none hV
  simp only [List.append_nil] at hW' hA0
  obtain ⟨s, _, _, _, _, e0, hds, hfs, ws⟩ := open_sheet (hval 0 27 v0 rfl rfl) h0
  subst e0
  obtain ⟨px, py, e1, _, _⟩ := open_point (hval 1 45 v1 rfl rfl) h1
  subst e1
  obtain ⟨ix, e2, _, _, wix⟩ := open_int Tryz.underlying5 (hval 2 5 v2 rfl rfl) h2
  subst e2
  obtain ⟨more, e3, _, _, wmore⟩ := open_int Tryz.underlying38 (hval 3 38 v3 rfl rfl) h3
  subst e3
  refine (sheetShown_walk px py ix more hds hfs ws wix wmore).mono fun e W' ⟨he, hg⟩ => ?_
  subst he
  exact ⟨_, rfl, post_law laid_out (by rw [Tryz.params7]; intro t ht; simp only [List.mem_cons, List.not_mem_nil, or_false] at ht; rcases ht with rfl | rfl | rfl | rfl <;> exact ⟨by kernel_rfl, of_decide_eq_true (by kernel_rfl)⟩) rfl hW' hA0 rfl rfl rfl rfl Tryz.underlying4 hg⟩
theorem sheetShown_over : Rows.sheetShownRow.holds Tryz.pinned (OpenSpec.ofChange Rows.sheetShownSpec) :=
  OpenClaim.holds_of_wide 7 Tryz.f7 rfl rfl rfl rfl rfl rfl rfl ⟨rfl, rfl, rfl, rfl, rfl⟩ rfl rfl rfl rfl rfl (by kernel_rfl) Tryz.func7 (by kernel_rfl)
    (of_decide_eq_true (by kernel_rfl)) (by unfold Func.isWrapper; first | (rw [if_pos (by decide +kernel)]; kernel_rfl) | (rw [if_neg (by decide +kernel)]; exact ⟨rfl, rfl⟩))
    (fun os started H enc _ => sheetShown_lifted os started H enc)
theorem sheetShown_holds : Rows.SheetShownSaid :=
  sheetShown_over
#print axioms sheetShown_holds
end Go.Proofs.YtmoofkoibaihhaaGreat
