/- For any sheet and any numbers: the statement SheetDigests of chapter 14 (if one number of a sheet is changed, its digest changes): the law's function returns true and leaves its arguments as they were. No condition. -/
import Derived.Test.YtmoofkoibaihhaaGreatShtO
import Derived.Test.YtmoofkoibaihhaaGreatFrameH
import Derived.Test.YtmoofkoibaihhaaGreatAppG
namespace Go.Proofs.YtmoofkoibaihhaaGreat
open Go.ChangeShapes Go.WideShapes Go.ChangeAt Go.RowKit
attribute [local go_sem] bqOp bqAll bqUpon sqOp sqAll sqUpon ssOp ssAll
attribute [local irreducible] wpQuiet wpBQ wpPlan wsPlan
set_option linter.unusedVariables false
/-- Digests of two valid sheets, compared. -/
theorem dig_beq {a b : List Int} {P : Prop} (h : digN a = digN b ↔ P) {v : Bool} (hv : v = true ↔ P) : (((digN b : Nat) : Int) == ((digN a : Nat) : Int)) = v := by
  refine Bool.eq_iff_iff.2 ?_
  rw [beq_iff_eq, hv, ← h]
  constructor
  · intro e; omega
  · intro e; omega
def DigS (w3 : World) (cs : Array Value) (w' : World) : Prop := Below w3.heap.size w3 w' ∧ w'.heap[w3.heap.size]? = some (.cells cs 27 (0, 0))
/-- A cell of a feature of the call's own list is written. -/
theorem OwnFs.setCell {base : Nat} {w0 w : World} {g N c k j : Nat} {l : List Feat} {f' : Feat} (h : OwnFs base w0 w (.slice (some ⟨g, 0, none⟩) N c) l) (hl : l.length = N) (hk : k < N) (hj : j < 9) {v : Value}
    (hf : ∀ va vs, featCells (f', va, vs) = (featCells (l.getD k noFeat, va, vs)).set j v) (hp : f'.area = (l.getD k noFeat).area ∧ f'.secs = (l.getD k noFeat).secs) : OwnFs base w0 (w.setCell ⟨g, k * 9 + j, none⟩ v) (.slice (some ⟨g, 0, none⟩) N c) (l.set k f') := by
  obtain ⟨items, rfl, ho, hr⟩ := h
  rw [List.length_map] at hl
  subst hl
  obtain ⟨x, hx⟩ : ∃ x, items[k]? = some x := ⟨_, List.getElem?_eq_getElem hk⟩
  have hxf : (items.map Prod.fst).getD k noFeat = x.1 := by rw [List.getD_eq_getElem?_getD, List.getElem?_map, hx]; rfl
  have hxm : x ∈ items := List.mem_of_getElem? hx
  rw [hxf] at hf hp
  have hlen : ((items.set k (f', x.2)).flatMap featCells).length = items.length * 9 := by rw [items_len, List.length_set]
  have hflat : (items.set k (f', x.2)).flatMap featCells = (items.flatMap featCells).set (k * 9 + j) v := by
    apply List.ext_getElem?
    intro p
    rcases Nat.lt_or_ge p (items.length * 9) with hp9 | hp9
    · have hi : p / 9 < items.length := by omega
      have e1 := flat_get featCells 9 (fun _ => rfl) ((noFeat, .slice none 0 0, .slice none 0 0) : FItem) (items.set k (f', x.2)) (p / 9) (p % 9) (by rw [List.length_set]; exact hi) (by omega)
      have e2 := flat_get featCells 9 (fun _ => rfl) ((noFeat, .slice none 0 0, .slice none 0 0) : FItem) items (p / 9) (p % 9) hi (by omega)
      rw [show p / 9 * 9 + p % 9 = p by omega] at e1 e2
      rw [e1]
      by_cases hik : p / 9 = k
      · have hg : (items.set k (f', x.2)).getD (p / 9) ((noFeat, .slice none 0 0, .slice none 0 0) : FItem) = (f', x.2) := by rw [List.getD_eq_getElem?_getD, hik, List.getElem?_set_self hk]; rfl
        have hg2 : items.getD (p / 9) ((noFeat, .slice none 0 0, .slice none 0 0) : FItem) = x := by rw [List.getD_eq_getElem?_getD, hik, hx]; rfl
        rw [hg2] at e2
        rw [hg, show ((f', x.2) : FItem) = (f', x.2.1, x.2.2) from rfl, hf, show ((x.1, x.2.1, x.2.2) : FItem) = x from rfl]
        by_cases hjp : p % 9 = j
        · rw [hjp, List.getElem?_set_self (by rw [featCells_len]; exact hj), show p = k * 9 + j by omega, List.getElem?_set_self (by rw [items_len]; omega)]
        · rw [List.getElem?_set_ne (Ne.symm hjp), List.getElem?_set_ne (by omega), e2]
      · have hg : (items.set k (f', x.2)).getD (p / 9) ((noFeat, .slice none 0 0, .slice none 0 0) : FItem) = items.getD (p / 9) (noFeat, .slice none 0 0, .slice none 0 0) := by rw [List.getD_eq_getElem?_getD, List.getD_eq_getElem?_getD, List.getElem?_set_ne (Ne.symm hik)]
        rw [hg, List.getElem?_set_ne (by omega), e2]
    · rw [List.getElem?_eq_none (by omega), List.getElem?_eq_none (by rw [List.length_set, items_len]; omega)]
  refine ⟨items.set k (f', x.2), by rw [List.map_set], ?_, fun y hy => ?_⟩
  · unfold OwnR
    rw [List.length_set, hflat]
    refine ⟨by rw [List.length_set]; exact ho.1, ?_⟩
    rcases ho.2 with ⟨e, h0⟩ | ⟨g', cap, cur, e, hg, hh, hnc, hcm, hcs, ht⟩
    · exfalso
      omega
    · cases e
      refine .inr ⟨g, c, cur.setIfInBounds (k * 9 + j) v, rfl, hg, block_set hh v, hnc, hcm, by simpa using hcs, ?_⟩
      rw [← ht]
      apply List.ext_getElem?
      intro p
      rcases Nat.lt_or_ge p (items.length * 9) with hp9 | hp9
      · rw [List.getElem?_take_of_lt hp9]
        by_cases e : p = k * 9 + j
        · subst e
          have hc9 : k * 9 + j < cur.toList.length := by
            have h1 : ((cur.toList).take (items.length * 9)).length = items.length * 9 := by rw [ht, items_len]
            rw [List.length_take] at h1
            omega
          rw [List.getElem?_set_self (by rw [List.length_take]; omega)]
          simp only [Array.toList_setIfInBounds]
          rw [List.getElem?_set_self hc9]
        · rw [List.getElem?_set_ne (Ne.symm e), List.getElem?_take_of_lt hp9]
          simp only [Array.toList_setIfInBounds]
          rw [List.getElem?_set_ne (Ne.symm e)]
      · rw [List.getElem?_eq_none (by rw [List.length_take]; omega), List.getElem?_eq_none (by rw [List.length_set, List.length_take]; omega)]
  · rcases List.mem_or_eq_of_mem_set hy with h | h
    · exact hr y h
    · subst h
      have := hr x hxm
      rw [← hp.1, ← hp.2] at this
      exact this
set_option maxRecDepth 100000 in
set_option maxHeartbeats 8000000 in
theorem sheetDigests_walk {s : Sht} {ads afs : Option Addr} {cds cfs : Nat} (fi : Int) (ix : Int) (n : Int) {w : World} (hds : IntsAt w (.slice ads s.don.length cds) s.don) (hfs : FeatsAt w (.slice afs s.feats.length cfs) s.feats) (ws : I64 s.edition ∧ I64 s.cap) (wfi : (Lit.int .u8 fi).wf = true) (wix : (Lit.int .u8 ix).wf = true) (wn : (Lit.int .i64 n).wf = true) :
    Calls Tryz.prog 10 #[shtV s (.slice ads s.don.length cds) (.slice afs s.feats.length cfs), .int .u8 fi, .int .u8 ix, .int .i64 n] w fun e w' => e = .returned (.bool true) ∧ Below w.heap.size w w' := by
  have HDs := Lib.hid hds
  have HFs := Lib.hid hfs
  have WSs := Lib.hid ws
  clear hds hfs ws
  have hi0 : 0 ≤ ix := by simp [Lit.wf, IntKind.min, IntKind.max, IntKind.bits, IntKind.signed] at wix; omega
  have hi1 : ix ≤ 255 := by simp [Lit.wf, IntKind.min, IntKind.max, IntKind.bits, IntKind.signed] at wix; omega
  have hf0 : 0 ≤ fi := by simp [Lit.wf, IntKind.min, IntKind.max, IntKind.bits, IntKind.signed] at wfi; omega
  have hf1 : fi ≤ 255 := by simp [Lit.wf, IntKind.min, IntKind.max, IntKind.bits, IntKind.signed] at wfi; omega
  have HN64 := Lib.hid (i64_wf wn)
  clear wix wfi wn
  obtain ⟨os, hos⟩ : ∃ v, decide (ShtOk s) = v := ⟨_, rfl⟩
  have OS := Lib.hid hos
  obtain ⟨m, em, hm⟩ : ∃ m em, digQ s os = (m, em) := ⟨_, _, rfl⟩
  have HM := Lib.hid hm
  clear hos hm
  go_enter Tryz.func10, Tryz.ntmps10
  go_wp2_with fail
  refine calls_named fun W hW => ?_
  obtain ⟨p1, hB⟩ := box1 hW
  clear hW
  have P1 := Lib.hid p1
  clear p1
  have q1 := cellsL P1.out
  (with_reducible refine (head14_true _).mono ?_)
  rintro e w1 ⟨rfl, hB1⟩
  have hC1 := below_step hB hB1
  go_wp2_with fail
  (with_reducible refine (shDigest_any s _ _ _ (intsL HDs.out hC1) (HFs.out.later hC1) OS.out HM.out).mono ?_)
  rintro e w2 ⟨rfl, hb2⟩
  have hB2 := below_step hB1 hb2
  have hC2 := below_step hB hB2
  cases os
  · obtain ⟨rfl, rfl⟩ : (0 : Int) = m ∧ (1 : Int) = em := by simpa [digQ] using HM.out
    go_wp2_with fail
    go_returns
    exact ⟨rfl, hC2⟩
  obtain rfl : (0 : Int) = em := by have := HM.out; simp only [digQ, Prod.mk.injEq] at this; exact this.2
  have HD : Hid ((digN (encS s) : Int) = m) := Lib.hid (by have := HM.out; simp only [digQ, Prod.mk.injEq] at this; exact this.1)
  have OK := Lib.hid (of_decide_eq_true OS.out)
  clear HM OS
  go_wp2_with fail
  obtain ⟨vs, hvs⟩ : ∃ v, decide (FewS s) = v := ⟨_, rfl⟩
  have HVs := Lib.hid hvs
  clear hvs
  (with_reducible refine (q14Few_any s _ _ _ (intsL HDs.out hC2) (HFs.out.later hC2) HVs.out).mono ?_)
  rintro e w3 ⟨rfl, hb3⟩
  have hB3 := below_step hB2 hb3
  have hC3 := below_step hB hB3
  cases vs
  · go_wp2_with fail
    go_returns
    exact ⟨rfl, hC3⟩
  have hs300 : s.feats.length ≤ 300 := OK.out.2.2.2.2.2.2.2.1
  have a3 := fun o => hB3.alloc hB3.size o
  have aa3 := fun o o' => (hB3.alloc hB3.size o).alloc (hB3.alloc hB3.size o).size o'
  have h4 : fi % 4 = 0 ∨ fi % 4 = 1 ∨ fi % 4 = 2 ∨ fi % 4 = 3 := by omega
  rcases h4 with h4 | h4 | h4 | h4
  · go_wp2_with (at_builtin; generalize hwn : World.alloc (World.alloc w3 _) _ = wA; obtain ⟨pA, pE, hbA⟩ := box2 hwn.symm; have hsA : wA.heap.size = w3.heap.size + 1 + 1 := (by rw [← hwn]; simp); clear hwn; have OW0 := OwnFs.box0 (base := w3.heap.size + 1) w pE (Nat.le_refl _); refine wpList_appF rfl _ _ rfl (w3.heap.size + 1) w _ [] s.feats rfl OW0 _ s.feats.length cfs rfl rfl HFs.out (below_step hC3 hbA) (N := s.feats.length) (by simp) (by omega) (by omega) ?_; intro adF cF wF hownF hbF; have pF : wF.heap[w3.heap.size]? = _ := (hbF.block _ (by omega)).trans pA; have hRF : Below w3.heap.size w3 wF := hbA.trans (hbF.mono (by omega)); have hBF := below_step hB3 hRF; have hCF := below_step hC3 hRF; have sF := fun v => hBF.setCell (p := ⟨w3.heap.size, 12, none⟩) hB3.size v; have OWF : Hid (OwnFs (w3.heap.size + 1) w wF (.slice adF s.feats.length cF) s.feats) := Lib.hid (by rw [List.nil_append] at hownF; exact hownF); have PF := Lib.hid pF; have fF := free_block pF; have kF := cell_block pF; clear hownF pF pA pE OW0)
    refine calls_named fun w20 hw20 => ?_
    have hC20 : Below w.heap.size w w20 := by
      rw [hw20]
      exact (hCF.setCell (p := ⟨w3.heap.size, 12, none⟩) hC3.size _).setCell (p := ⟨w3.heap.size, 2, none⟩) hC3.size _
    have FX : Hid (FeatsAt w20 (.slice adF s.feats.length cF) s.feats) := Lib.hid (by
      have h := (OWF.out.put (b := w3.heap.size) (i := 12) (by omega) (.slice adF s.feats.length cF)).put (b := w3.heap.size) (i := 2) (by omega) (.int .i64 n)
      rw [← hw20] at h
      exact h.feats hC20 (by omega))
    clear hw20
    by_cases hok : ShtOk { s with edition := n }
    · obtain ⟨g, hg⟩ : ∃ g : Int, (digN (encS { s with edition := n }) : Int) = g := ⟨_, rfl⟩
      have HG : Hid (digQ { s with edition := n } true = (g, 0)) := Lib.hid (by rw [← hg]; rfl)
      have hEQ : (g == m) = (s.edition == n) := by
        rw [← hg, ← HD.out]
        exact dig_beq (digests_edition WSs.out.1 HN64.out) beq_iff_eq
      have HEQ := Lib.hid hEQ
      have HOT : Hid (decide (ShtOk { s with edition := n }) = true) := Lib.hid (decide_eq_true hok)
      clear hok hg
      (with_reducible refine (shDigest_any { s with edition := n } _ _ _ (intsL HDs.out hC20) FX.out HOT.out HG.out).mono ?_)
      rintro e w21 ⟨rfl, hb21⟩
      have hC21 := below_step hC20 hb21
      go_wp2_with fail
      all_goals
        go_returns
        exact ⟨rfl, hC21⟩
    · have HOT : Hid (decide (ShtOk { s with edition := n }) = false) := Lib.hid (decide_eq_false hok)
      clear hok
      (with_reducible refine (shDigest_any { s with edition := n } _ _ _ (intsL HDs.out hC20) FX.out HOT.out rfl).mono ?_)
      rintro e w21 ⟨rfl, hb21⟩
      have hC21 := below_step hC20 hb21
      go_wp2_with fail
      all_goals
        go_returns
        exact ⟨rfl, hC21⟩
  · go_wp2_with (at_builtin; generalize hwn : World.alloc (World.alloc w3 _) _ = wA; obtain ⟨pA, pE, hbA⟩ := box2 hwn.symm; have hsA : wA.heap.size = w3.heap.size + 1 + 1 := (by rw [← hwn]; simp); clear hwn; have OW0 := OwnFs.box0 (base := w3.heap.size + 1) w pE (Nat.le_refl _); refine wpList_appF rfl _ _ rfl (w3.heap.size + 1) w _ [] s.feats rfl OW0 _ s.feats.length cfs rfl rfl HFs.out (below_step hC3 hbA) (N := s.feats.length) (by simp) (by omega) (by omega) ?_; intro adF cF wF hownF hbF; have pF : wF.heap[w3.heap.size]? = _ := (hbF.block _ (by omega)).trans pA; have hRF : Below w3.heap.size w3 wF := hbA.trans (hbF.mono (by omega)); have hBF := below_step hB3 hRF; have hCF := below_step hC3 hRF; have sF := fun v => hBF.setCell (p := ⟨w3.heap.size, 12, none⟩) hB3.size v; have OWF : Hid (OwnFs (w3.heap.size + 1) w wF (.slice adF s.feats.length cF) s.feats) := Lib.hid (by rw [List.nil_append] at hownF; exact hownF); have PF := Lib.hid pF; have fF := free_block pF; have kF := cell_block pF; clear hownF pF pA pE OW0)
    refine calls_named fun w20 hw20 => ?_
    have hC20 : Below w.heap.size w w20 := by
      rw [hw20]
      exact (hCF.setCell (p := ⟨w3.heap.size, 12, none⟩) hC3.size _).setCell (p := ⟨w3.heap.size, 10, none⟩) hC3.size _
    have FX : Hid (FeatsAt w20 (.slice adF s.feats.length cF) s.feats) := Lib.hid (by
      have h := (OWF.out.put (b := w3.heap.size) (i := 12) (by omega) (.slice adF s.feats.length cF)).put (b := w3.heap.size) (i := 10) (by omega) (.int .i64 n)
      rw [← hw20] at h
      exact h.feats hC20 (by omega))
    clear hw20
    by_cases hok : ShtOk { s with cap := n }
    · obtain ⟨g, hg⟩ : ∃ g : Int, (digN (encS { s with cap := n }) : Int) = g := ⟨_, rfl⟩
      have HG : Hid (digQ { s with cap := n } true = (g, 0)) := Lib.hid (by rw [← hg]; rfl)
      have hEQ : (g == m) = (s.cap == n) := by
        rw [← hg, ← HD.out]
        exact dig_beq (digests_cap WSs.out.2 HN64.out) beq_iff_eq
      have HEQ := Lib.hid hEQ
      have HOT : Hid (decide (ShtOk { s with cap := n }) = true) := Lib.hid (decide_eq_true hok)
      clear hok hg
      (with_reducible refine (shDigest_any { s with cap := n } _ _ _ (intsL HDs.out hC20) FX.out HOT.out HG.out).mono ?_)
      rintro e w21 ⟨rfl, hb21⟩
      have hC21 := below_step hC20 hb21
      go_wp2_with fail
      all_goals
        go_returns
        exact ⟨rfl, hC21⟩
    · have HOT : Hid (decide (ShtOk { s with cap := n }) = false) := Lib.hid (decide_eq_false hok)
      clear hok
      (with_reducible refine (shDigest_any { s with cap := n } _ _ _ (intsL HDs.out hC20) FX.out HOT.out rfl).mono ?_)
      rintro e w21 ⟨rfl, hb21⟩
      have hC21 := below_step hC20 hb21
      go_wp2_with fail
      all_goals
        go_returns
        exact ⟨rfl, hC21⟩
  · rcases Nat.eq_zero_or_pos s.feats.length with hz | hz
    · have hz2 : ((s.feats.length : Int) == 0) = true := by rw [hz]; rfl
      have HZ := Lib.hid hz
      clear hz
      go_wp2_with (at_builtin; generalize hwn : World.alloc (World.alloc w3 _) _ = wA; obtain ⟨pA, pE, hbA⟩ := box2 hwn.symm; have hsA : wA.heap.size = w3.heap.size + 1 + 1 := (by rw [← hwn]; simp); clear hwn; have OW0 := OwnFs.box0 (base := w3.heap.size + 1) w pE (Nat.le_refl _); refine wpList_appF rfl _ _ rfl (w3.heap.size + 1) w _ [] s.feats rfl OW0 _ s.feats.length cfs rfl rfl HFs.out (below_step hC3 hbA) (N := s.feats.length) (by simp) (by omega) (by omega) ?_; intro adF cF wF hownF hbF; have pF : wF.heap[w3.heap.size]? = _ := (hbF.block _ (by omega)).trans pA; have hRF : Below w3.heap.size w3 wF := hbA.trans (hbF.mono (by omega)); have hBF := below_step hB3 hRF; have hCF := below_step hC3 hRF; have sF := fun v => hBF.setCell (p := ⟨w3.heap.size, 12, none⟩) hB3.size v; have OWF : Hid (OwnFs (w3.heap.size + 1) w wF (.slice adF s.feats.length cF) s.feats) := Lib.hid (by rw [List.nil_append] at hownF; exact hownF); have PF := Lib.hid pF; have fF := free_block pF; have kF := cell_block pF; clear hownF pF pA pE OW0)
      go_returns
      exact ⟨rfl, hCF.setCell hC3.size _⟩
    have hz2 : ((s.feats.length : Int) == 0) = false := beq_eq_false_iff_ne.2 (by omega)
    have hne : (0 : Int) < (s.feats.length : Int) := by omega
    obtain ⟨k, hk, hkn⟩ : ∃ k : Nat, ix % (s.feats.length : Int) = (k : Int) ∧ k < s.feats.length := ⟨(ix % (s.feats.length : Int)).toNat, by have := Int.emod_nonneg ix (Int.ne_of_gt hne); omega, by have := Int.emod_nonneg ix (Int.ne_of_gt hne); have := Int.emod_lt_of_pos ix hne; omega⟩
    clear hne
    have hwi : IntKind.i64.wrap ix = ix := IntWalk.i64_in _ (by omega)
    have htm : ix.tmod (s.feats.length : Int) = (k : Int) := by rw [Int.tmod_eq_emod_of_nonneg hi0]; exact hk
    have hnil : ¬ s.feats = [] := fun e => by rw [e] at hz; exact absurd hz (by simp)
    obtain ⟨f, hf⟩ : ∃ f, s.feats.getD k noFeat = f := ⟨_, rfl⟩
    have HFK := Lib.hid hf
    obtain ⟨g0, o0, va, vs, rfl, fc⟩ := HFs.out.row hkn
    rw [hf] at fc
    have C6 := Lib.hid fc.c6
    clear hf fc
    go_wp2_with (at_builtin; generalize hwn : World.alloc (World.alloc w3 _) _ = wA; obtain ⟨pA, pE, hbA⟩ := box2 hwn.symm; have hsA : wA.heap.size = w3.heap.size + 1 + 1 := (by rw [← hwn]; simp); clear hwn; have OW0 := OwnFs.box0 (base := w3.heap.size + 1) w pE (Nat.le_refl _); refine wpList_appF rfl _ _ rfl (w3.heap.size + 1) w _ [] s.feats rfl OW0 _ s.feats.length cfs rfl rfl HFs.out (below_step hC3 hbA) (N := s.feats.length) (by simp) (by omega) (by omega) ?_; intro adF cF wF hownF hbF; have pF : wF.heap[w3.heap.size]? = _ := (hbF.block _ (by omega)).trans pA; have hRF : Below w3.heap.size w3 wF := hbA.trans (hbF.mono (by omega)); have hBF := below_step hB3 hRF; have hCF := below_step hC3 hRF; have sF := fun v => hBF.setCell (p := ⟨w3.heap.size, 12, none⟩) hB3.size v; have OWF : Hid (OwnFs (w3.heap.size + 1) w wF (.slice adF s.feats.length cF) s.feats) := Lib.hid (by rw [List.nil_append] at hownF; exact hownF); have PF := Lib.hid pF; have fF := free_block pF; have kF := cell_block pF; clear hownF pF pA pE OW0)
    refine wp_named fun w20 hw20 => ?_
    have p20 := block_set (i := 12) PF.out (.slice adF s.feats.length cF)
    have OW20 := OWF.out.put (b := w3.heap.size) (i := 12) (by omega) (.slice adF s.feats.length cF)
    have hR20 := hRF.setCell (p := ⟨w3.heap.size, 12, none⟩) (Nat.le_refl _) (.slice adF s.feats.length cF)
    rw [← hw20] at p20 OW20 hR20
    simp only [List.setIfInBounds_toArray, List.set_cons_succ, List.set_cons_zero] at p20
    clear hw20
    have hB20 := below_step hB3 hR20
    have hC20' := below_step hC3 hR20
    have hcap9 : s.feats.length ≤ cfs := by
      obtain ⟨_, _, e, hcc, _⟩ := HFs.out
      cases e
      exact hcc.2
    have z1 := cellR1 (cell_later hC20' C6.out)
    clear q1 fF kF a3 aa3 sF
    have q1 := cellsR (block_later hB20 P1.out)
    obtain ⟨gg, va', vs', rfl, hgg, hfz, FXX⟩ := OW20.spot (below_step hC3 hR20) rfl (by omega) hkn
    have P20 := Lib.hid p20
    have OWW := Lib.hid OW20
    have FC := Lib.hid FXX
    have FZ := Lib.hid hfz
    have HGG := Lib.hid hgg
    clear p20 OW20 FXX hgg hfz
    refine wp_region_plan (.take 0 (.take 0 (.take 0 (.take 0 (.take 0 (.take 0 (.take 0 (.take 0 (.take 0 (.take 0 (.take 0 (.take 0 (.take 0 (.take 0 .done)))))))))))))) (by kernel_rfl) (by kernel_rfl) (fun hP => ?_)
    repeat' (first
      | (refine wpPlan_two ?_ ?_)
      | (refine wpPlan_three ?_ ?_ ?_)
      | (refine wpPlan_take rfl (fun K hK => ?_); replace hK := Lib.hid hK; go_simp; first | (refine hK.out _ ?_; clear hK K) | (apply Exists.intro; refine ⟨fun _ => ?_, hK.out _ ?_⟩; (first | with_reducible exact rfl | skip); clear hK K))
      | (refine wpPlan_only rfl (fun K hK => ?_); replace hK := Lib.hid hK; (first | (go_simp; first | skip)); refine hK.out _ _ (by first | assumption | exact below_step hP hbx | exact hP.drew | exact hP.alloc hP.size _) (fun hP => ?_); clear hK K))
    all_goals refine wpPlan_done ?_
    clear q1 z1
    have d6 : (w20.drew.drew).cell? ⟨gg, k * 9 + 6, none⟩ = some (.int .i64 (f.dep)) := by rw [← HFK.out]; exact FC.out.c6
    have fX : (w20.drew.drew).frozen? ⟨gg, k * 9 + 6, none⟩ = false := FZ.out _
    go_wp2_with fail
    refine wp_region_planS (DigS w3 _) (.take 0 (.take 0 (.take 0 (.take 0 (.take 0 (.take 0 (.take 0 (.take 0 (.take 0 (.take 0 (.take 0 (.only 0 .done)))))))))))) (by kernel_rfl) (by kernel_rfl) (⟨hR20.drew.drew, P20.out⟩) (fun hP => ?_)
    repeat' (first
      | (refine wsPlan_two ?_ ?_)
      | (refine wsPlan_three ?_ ?_ ?_)
      | (refine wsPlan_take rfl (fun K hK => ?_); replace hK := Lib.hid hK; go_simp; first | (refine hK.out _ ?_; clear hK K) | (apply Exists.intro; refine ⟨fun w' hw => ?_, hK.out _ ?_⟩; (first | with_reducible exact rfl | (have kq := cellsL P1.out w' (below_step hB3 hw.1); have kb := cell_block hw.2; go_simp; exact rfl)); clear hK K))
      | (refine wsPlan_only rfl (fun K hK => ?_); replace hK := Lib.hid hK; (first | (go_simp; generalize hwn : World.drew (World.drew (World.setCell _ _ _)) = wS; have hSS : DigS w3 _ wS := (by subst hwn; exact ⟨(hR20.setCell (by have := HGG.out; simp only; omega) _).drew.drew, block_far P20.out (by have := HGG.out; simp only; omega) _⟩); have OWS : OwnFs (w3.heap.size + 1) w wS (.slice (some ⟨gg, 0, none⟩) s.feats.length cF) (s.feats.set k { f with dep := n }) := (by subst hwn; exact OwnFs.setCell (w := w20) (k := k) (j := 6) OWW.out rfl hkn (by omega) (fun va vs => by rw [HFK.out]; rfl) (by rw [HFK.out]; exact ⟨rfl, rfl⟩))) | (go_simp; first | skip)); refine hK.out _ _ (by first | assumption | exact hP) (fun hP => ?_); clear hK K))
    all_goals refine wsPlan_done ?_
    have hC20 := below_step hC3 hP.1
    have FX : Hid (FeatsAt wS (.slice (some ⟨gg, 0, none⟩) s.feats.length cF) (s.feats.set k { f with dep := n })) := Lib.hid (OWS.feats hC20 (by rw [List.length_set]; omega))
    have k20 := cell_block hP.2
    clear OWS hwn d6 fX
    go_wp2_with fail
    by_cases hok : ShtOk { s with feats := s.feats.set k { f with dep := n } }
    · obtain ⟨g, hg⟩ : ∃ g : Int, (digN (encS { s with feats := s.feats.set k { f with dep := n } }) : Int) = g := ⟨_, rfl⟩
      have HG : Hid (digQ { s with feats := s.feats.set k { f with dep := n } } true = (g, 0)) := Lib.hid (by rw [← hg]; rfl)
      have hEQ : (g == m) = (f.dep == n) := by
        rw [← hg, ← HD.out]
        exact dig_beq (by have h := digests_dep (s := s) (k := k) (n := n) hkn OK.out.2.2.2.2.2.2.2 (by rw [HFK.out]; exact hok.2.2.2.2.2.2.2); rw [HFK.out] at h; exact h) beq_iff_eq
      have HEQ := Lib.hid hEQ
      have HOT : Hid (decide (ShtOk { s with feats := s.feats.set k { f with dep := n } }) = true) := Lib.hid (decide_eq_true hok)
      clear hok hg
      (with_reducible refine (shDigest_any { s with feats := s.feats.set k { f with dep := n } } _ _ _ (intsL HDs.out hC20) FX.out HOT.out HG.out).mono ?_)
      rintro e w21 ⟨rfl, hb21⟩
      have hC21 := below_step hC20 hb21
      go_wp2_with fail
      all_goals
        go_returns
        exact ⟨rfl, hC21⟩
    · have HOT : Hid (decide (ShtOk { s with feats := s.feats.set k { f with dep := n } }) = false) := Lib.hid (decide_eq_false hok)
      clear hok
      (with_reducible refine (shDigest_any { s with feats := s.feats.set k { f with dep := n } } _ _ _ (intsL HDs.out hC20) FX.out HOT.out rfl).mono ?_)
      rintro e w21 ⟨rfl, hb21⟩
      have hC21 := below_step hC20 hb21
      go_wp2_with fail
      all_goals
        go_returns
        exact ⟨rfl, hC21⟩
  · rcases Nat.eq_zero_or_pos s.feats.length with hz | hz
    · have hz2 : ((s.feats.length : Int) == 0) = true := by rw [hz]; rfl
      have HZ := Lib.hid hz
      clear hz
      go_wp2_with (at_builtin; generalize hwn : World.alloc (World.alloc w3 _) _ = wA; obtain ⟨pA, pE, hbA⟩ := box2 hwn.symm; have hsA : wA.heap.size = w3.heap.size + 1 + 1 := (by rw [← hwn]; simp); clear hwn; have OW0 := OwnFs.box0 (base := w3.heap.size + 1) w pE (Nat.le_refl _); refine wpList_appF rfl _ _ rfl (w3.heap.size + 1) w _ [] s.feats rfl OW0 _ s.feats.length cfs rfl rfl HFs.out (below_step hC3 hbA) (N := s.feats.length) (by simp) (by omega) (by omega) ?_; intro adF cF wF hownF hbF; have pF : wF.heap[w3.heap.size]? = _ := (hbF.block _ (by omega)).trans pA; have hRF : Below w3.heap.size w3 wF := hbA.trans (hbF.mono (by omega)); have hBF := below_step hB3 hRF; have hCF := below_step hC3 hRF; have sF := fun v => hBF.setCell (p := ⟨w3.heap.size, 12, none⟩) hB3.size v; have OWF : Hid (OwnFs (w3.heap.size + 1) w wF (.slice adF s.feats.length cF) s.feats) := Lib.hid (by rw [List.nil_append] at hownF; exact hownF); have PF := Lib.hid pF; have fF := free_block pF; have kF := cell_block pF; clear hownF pF pA pE OW0)
      go_returns
      exact ⟨rfl, hCF.setCell hC3.size _⟩
    have hz2 : ((s.feats.length : Int) == 0) = false := beq_eq_false_iff_ne.2 (by omega)
    have hne : (0 : Int) < (s.feats.length : Int) := by omega
    obtain ⟨k, hk, hkn⟩ : ∃ k : Nat, ix % (s.feats.length : Int) = (k : Int) ∧ k < s.feats.length := ⟨(ix % (s.feats.length : Int)).toNat, by have := Int.emod_nonneg ix (Int.ne_of_gt hne); omega, by have := Int.emod_nonneg ix (Int.ne_of_gt hne); have := Int.emod_lt_of_pos ix hne; omega⟩
    clear hne
    have hwi : IntKind.i64.wrap ix = ix := IntWalk.i64_in _ (by omega)
    have htm : ix.tmod (s.feats.length : Int) = (k : Int) := by rw [Int.tmod_eq_emod_of_nonneg hi0]; exact hk
    have hnil : ¬ s.feats = [] := fun e => by rw [e] at hz; exact absurd hz (by simp)
    obtain ⟨f, hf⟩ : ∃ f, s.feats.getD k noFeat = f := ⟨_, rfl⟩
    have HFK := Lib.hid hf
    obtain ⟨g0, o0, va, vs, rfl, fc⟩ := HFs.out.row hkn
    rw [hf] at fc
    have C7 := Lib.hid fc.c7
    clear hf fc
    go_wp2_with (at_builtin; generalize hwn : World.alloc (World.alloc w3 _) _ = wA; obtain ⟨pA, pE, hbA⟩ := box2 hwn.symm; have hsA : wA.heap.size = w3.heap.size + 1 + 1 := (by rw [← hwn]; simp); clear hwn; have OW0 := OwnFs.box0 (base := w3.heap.size + 1) w pE (Nat.le_refl _); refine wpList_appF rfl _ _ rfl (w3.heap.size + 1) w _ [] s.feats rfl OW0 _ s.feats.length cfs rfl rfl HFs.out (below_step hC3 hbA) (N := s.feats.length) (by simp) (by omega) (by omega) ?_; intro adF cF wF hownF hbF; have pF : wF.heap[w3.heap.size]? = _ := (hbF.block _ (by omega)).trans pA; have hRF : Below w3.heap.size w3 wF := hbA.trans (hbF.mono (by omega)); have hBF := below_step hB3 hRF; have hCF := below_step hC3 hRF; have sF := fun v => hBF.setCell (p := ⟨w3.heap.size, 12, none⟩) hB3.size v; have OWF : Hid (OwnFs (w3.heap.size + 1) w wF (.slice adF s.feats.length cF) s.feats) := Lib.hid (by rw [List.nil_append] at hownF; exact hownF); have PF := Lib.hid pF; have fF := free_block pF; have kF := cell_block pF; clear hownF pF pA pE OW0)
    refine wp_named fun w20 hw20 => ?_
    have p20 := block_set (i := 12) PF.out (.slice adF s.feats.length cF)
    have OW20 := OWF.out.put (b := w3.heap.size) (i := 12) (by omega) (.slice adF s.feats.length cF)
    have hR20 := hRF.setCell (p := ⟨w3.heap.size, 12, none⟩) (Nat.le_refl _) (.slice adF s.feats.length cF)
    rw [← hw20] at p20 OW20 hR20
    simp only [List.setIfInBounds_toArray, List.set_cons_succ, List.set_cons_zero] at p20
    clear hw20
    have hB20 := below_step hB3 hR20
    have hC20' := below_step hC3 hR20
    have hcap9 : s.feats.length ≤ cfs := by
      obtain ⟨_, _, e, hcc, _⟩ := HFs.out
      cases e
      exact hcc.2
    have z1 := cellR1 (cell_later hC20' C7.out)
    clear q1 fF kF a3 aa3 sF
    have q1 := cellsR (block_later hB20 P1.out)
    obtain ⟨gg, va', vs', rfl, hgg, hfz, FXX⟩ := OW20.spot (below_step hC3 hR20) rfl (by omega) hkn
    have P20 := Lib.hid p20
    have OWW := Lib.hid OW20
    have FC := Lib.hid FXX
    have FZ := Lib.hid hfz
    have HGG := Lib.hid hgg
    clear p20 OW20 FXX hgg hfz
    refine wp_region_plan (.take 0 (.take 0 (.take 0 (.take 0 (.take 0 (.take 0 (.take 0 (.take 0 (.take 0 (.take 0 (.take 0 (.take 0 (.take 0 (.take 0 .done)))))))))))))) (by kernel_rfl) (by kernel_rfl) (fun hP => ?_)
    repeat' (first
      | (refine wpPlan_two ?_ ?_)
      | (refine wpPlan_three ?_ ?_ ?_)
      | (refine wpPlan_take rfl (fun K hK => ?_); replace hK := Lib.hid hK; go_simp; first | (refine hK.out _ ?_; clear hK K) | (apply Exists.intro; refine ⟨fun _ => ?_, hK.out _ ?_⟩; (first | with_reducible exact rfl | skip); clear hK K))
      | (refine wpPlan_only rfl (fun K hK => ?_); replace hK := Lib.hid hK; (first | (go_simp; first | skip)); refine hK.out _ _ (by first | assumption | exact below_step hP hbx | exact hP.drew | exact hP.alloc hP.size _) (fun hP => ?_); clear hK K))
    all_goals refine wpPlan_done ?_
    clear q1 z1
    have d6 : (w20.drew.drew).cell? ⟨gg, k * 9 + 7, none⟩ = some (.int .i64 (f.sym)) := by rw [← HFK.out]; exact FC.out.c7
    have fX : (w20.drew.drew).frozen? ⟨gg, k * 9 + 7, none⟩ = false := FZ.out _
    go_wp2_with fail
    refine wp_region_planS (DigS w3 _) (.take 0 (.take 0 (.take 0 (.take 0 (.take 0 (.take 0 (.take 0 (.take 0 (.take 0 (.take 0 (.take 0 (.only 0 .done)))))))))))) (by kernel_rfl) (by kernel_rfl) (⟨hR20.drew.drew, P20.out⟩) (fun hP => ?_)
    repeat' (first
      | (refine wsPlan_two ?_ ?_)
      | (refine wsPlan_three ?_ ?_ ?_)
      | (refine wsPlan_take rfl (fun K hK => ?_); replace hK := Lib.hid hK; go_simp; first | (refine hK.out _ ?_; clear hK K) | (apply Exists.intro; refine ⟨fun w' hw => ?_, hK.out _ ?_⟩; (first | with_reducible exact rfl | (have kq := cellsL P1.out w' (below_step hB3 hw.1); have kb := cell_block hw.2; go_simp; exact rfl)); clear hK K))
      | (refine wsPlan_only rfl (fun K hK => ?_); replace hK := Lib.hid hK; (first | (go_simp; generalize hwn : World.drew (World.drew (World.setCell _ _ _)) = wS; have hSS : DigS w3 _ wS := (by subst hwn; exact ⟨(hR20.setCell (by have := HGG.out; simp only; omega) _).drew.drew, block_far P20.out (by have := HGG.out; simp only; omega) _⟩); have OWS : OwnFs (w3.heap.size + 1) w wS (.slice (some ⟨gg, 0, none⟩) s.feats.length cF) (s.feats.set k { f with sym := n }) := (by subst hwn; exact OwnFs.setCell (w := w20) (k := k) (j := 7) OWW.out rfl hkn (by omega) (fun va vs => by rw [HFK.out]; rfl) (by rw [HFK.out]; exact ⟨rfl, rfl⟩))) | (go_simp; first | skip)); refine hK.out _ _ (by first | assumption | exact hP) (fun hP => ?_); clear hK K))
    all_goals refine wsPlan_done ?_
    have hC20 := below_step hC3 hP.1
    have FX : Hid (FeatsAt wS (.slice (some ⟨gg, 0, none⟩) s.feats.length cF) (s.feats.set k { f with sym := n })) := Lib.hid (OWS.feats hC20 (by rw [List.length_set]; omega))
    have k20 := cell_block hP.2
    clear OWS hwn d6 fX
    go_wp2_with fail
    by_cases hok : ShtOk { s with feats := s.feats.set k { f with sym := n } }
    · obtain ⟨g, hg⟩ : ∃ g : Int, (digN (encS { s with feats := s.feats.set k { f with sym := n } }) : Int) = g := ⟨_, rfl⟩
      have HG : Hid (digQ { s with feats := s.feats.set k { f with sym := n } } true = (g, 0)) := Lib.hid (by rw [← hg]; rfl)
      have hEQ : (g == m) = (f.sym == n) := by
        rw [← hg, ← HD.out]
        exact dig_beq (by have h := digests_sym (s := s) (k := k) (n := n) hkn OK.out.2.2.2.2.2.2.2 (by rw [HFK.out]; exact hok.2.2.2.2.2.2.2); rw [HFK.out] at h; exact h) beq_iff_eq
      have HEQ := Lib.hid hEQ
      have HOT : Hid (decide (ShtOk { s with feats := s.feats.set k { f with sym := n } }) = true) := Lib.hid (decide_eq_true hok)
      clear hok hg
      (with_reducible refine (shDigest_any { s with feats := s.feats.set k { f with sym := n } } _ _ _ (intsL HDs.out hC20) FX.out HOT.out HG.out).mono ?_)
      rintro e w21 ⟨rfl, hb21⟩
      have hC21 := below_step hC20 hb21
      go_wp2_with fail
      all_goals
        go_returns
        exact ⟨rfl, hC21⟩
    · have HOT : Hid (decide (ShtOk { s with feats := s.feats.set k { f with sym := n } }) = false) := Lib.hid (decide_eq_false hok)
      clear hok
      (with_reducible refine (shDigest_any { s with feats := s.feats.set k { f with sym := n } } _ _ _ (intsL HDs.out hC20) FX.out HOT.out rfl).mono ?_)
      rintro e w21 ⟨rfl, hb21⟩
      have hC21 := below_step hC20 hb21
      go_wp2_with fail
      all_goals
        go_returns
        exact ⟨rfl, hC21⟩
set_option maxRecDepth 100000 in
theorem sheetDigests_lifted (os : Os) (started : os.Started) (H : Type) (enc : TypeId × Value → H) :
    ReturnsInHanded {} Tryz.checked os 10 .any (Rows.sheetDigestsSpec.pre6 enc Tryz.prog Tryz.f10 Rows.sheetDigestsRow.domain false) (Rows.sheetDigestsSpec.post enc Tryz.prog Tryz.f10 false true false false) := by
  refine returnsInHanded_of_change (C := Tryz.checked) own_knob started (by kernel_rfl) Tryz.func10
    (ChangeSpec.witness6 (enc := enc) (C := Tryz.checked) false ⟨#[], #[.agg #[.int .i64 0, .int .i64 0, .int .i64 0, .int .i64 0, .int .i64 0, .int .i64 0, .int .i64 0, .int .i64 0, .int .i64 0, .int .i64 0, .int .i64 0, .slice none 0 0, .slice none 0 0], .int .u8 0, .int .u8 0, .int .i64 0], []⟩ 8 (by kernel_rfl) (by kernel_rfl) (by kernel_rfl) (by kernel_rfl)) ?_
  intro W base args ds gs before hval0 hW hcnd _
  have hval : ∀ (j : Nat) t v, Tryz.f10.params[j]? = some t → args[j]? = some v → Value.okWide Tryz.prog W .any base t v := hval0
  have hW' := hW
  obtain ⟨p, q, hA0, hV, rfl, hfz, hnd⟩ := hW
  have hA : DataW.TrodAll enc Tryz.prog W 0 (fun _ => true) true Tryz.f10.params.toList args.toList ds p := hA0
  rw [Tryz.params10] at hA hval
  obtain ⟨v0, vs0, d0, ds0, p0, q0, hargs, rfl, rfl, h0, r0⟩ := trodAll_cons hA
  obtain ⟨v1, vs1, d1, ds1, p1, q1, rfl, rfl, rfl, h1, r1⟩ := trodAll_cons r0
  obtain ⟨v2, vs2, d2, ds2, p2, q2, rfl, rfl, rfl, h2, r2⟩ := trodAll_cons r1
  obtain ⟨v3, vs3, d3, ds3, p3, q3, rfl, rfl, rfl, h3, r3⟩ := trodAll_cons r2
  obtain ⟨rfl, rfl, rfl⟩ := trodAll_nil r3
  obtain rfl : args = #[v0, v1, v2, v3] := by cases args; simp_all
  obtain ⟨rfl, rfl⟩ := trodVars_none hV
  simp only [List.append_nil] at hW' hA0
  obtain ⟨s, _, _, _, _, e0, hds, hfs, ws⟩ := open_sheet (hval 0 27 v0 rfl rfl) h0
  subst e0
  obtain ⟨fi, e1, _, _, wfi⟩ := open_int Tryz.underlying5 (hval 1 5 v1 rfl rfl) h1
  subst e1
  obtain ⟨ix, e2, _, _, wix⟩ := open_int Tryz.underlying5 (hval 2 5 v2 rfl rfl) h2
  subst e2
  obtain ⟨n, e3, _, _, wn⟩ := open_int Tryz.underlying3 (hval 3 3 v3 rfl rfl) h3
  subst e3
  refine (sheetDigests_walk fi ix n hds hfs ws wfi wix wn).mono fun e W' ⟨he, hg⟩ => ?_
  subst he
  exact ⟨_, rfl, post_law laid_out (by rw [Tryz.params10]; intro t ht; simp only [List.mem_cons, List.not_mem_nil, or_false] at ht; rcases ht with rfl | rfl | rfl | rfl <;> exact ⟨by kernel_rfl, of_decide_eq_true (by kernel_rfl)⟩) rfl hW' hA0 rfl rfl rfl rfl Tryz.underlying4 hg⟩
theorem sheetDigests_over : Rows.sheetDigestsRow.holds Tryz.pinned (OpenSpec.ofChange Rows.sheetDigestsSpec) :=
  OpenClaim.holds_of_wide 10 Tryz.f10 rfl rfl rfl rfl rfl rfl rfl ⟨rfl, rfl, rfl, rfl, rfl⟩ rfl rfl rfl rfl rfl (by kernel_rfl) Tryz.func10 (by kernel_rfl)
    (of_decide_eq_true (by kernel_rfl)) (by unfold Func.isWrapper; first | (rw [if_pos (by decide +kernel)]; kernel_rfl) | (rw [if_neg (by decide +kernel)]; exact ⟨rfl, rfl⟩))
    (fun os started H enc _ => sheetDigests_lifted os started H enc)
theorem sheetDigests_holds : Rows.SheetDigestsSaid :=
  sheetDigests_over
#print axioms sheetDigests_holds
end Go.Proofs.YtmoofkoibaihhaaGreat
