/- The walk of From$3$1: a sector is read. -/
import Derived.Test.YtdmegkkifiahdaaGreatGetP
import Derived.Test.YtdmegkkifiahdaaGreatKB
namespace Go.Proofs.YtdmegkkifiahdaaGreat
open Go.RowKit
attribute [local go_sem] bqOp bqAll bqUpon sqOp sqAll sqUpon ssOp ssAll
attribute [local irreducible] wpQuiet wpBQ wpPlan wsPlan
set_option linter.unusedVariables false
theorem set_other {w : World} {b i j : Nat} {v : Value} {o : Obj} (h : w.heap[j]? = some o) (hne : j ≠ b) : (w.setCell ⟨b, i, none⟩ v).heap[j]? = some o := by
  show (w.heap.modify b _)[j]? = _
  rw [Array.getElem?_modify, if_neg (fun e => hne e.symm)]
  exact h
theorem pt_set {w0 w wn : World} {br b : Nat} {x y x0 y0 : Value} {T : TypeId} (h : wn = (w.setCell ⟨b, 0, none⟩ x).setCell ⟨b, 1, none⟩ y) (hb : w.heap[b]? = some (.cells #[x0, y0] T (0, 0))) :
    wn.heap[b]? = some (.cells #[x, y] T (0, 0)) ∧ (∀ j o, j ≠ b → w.heap[j]? = some o → wn.heap[j]? = some o) ∧ (∀ l, RestAt w0 br w l → b ≠ br → w0.heap.size ≤ b → RestAt w0 br wn l) ∧ (∀ W, Wr br W w → W.heap.size ≤ b → Wr br W wn) := by
  subst h
  refine ⟨by simpa using block_set (i := 1) (block_set (i := 0) hb x) y, fun j o hj ho => set_other (set_other ho hj) hj, fun l hl hne hk => (hl.setOther hne hk _).setOther hne hk _, fun W hw hk => (hw.setOther hk _).setOther hk _⟩
theorem sec_set {w0 w wn : World} {br b : Nat} {x0 x1 x2 x3 x4 x5 y0 y1 y2 y3 y4 y5 : Value} {T : TypeId} (h : wn = (((((w.setCell ⟨b, 0, none⟩ x0).setCell ⟨b, 1, none⟩ x1).setCell ⟨b, 2, none⟩ x2).setCell ⟨b, 3, none⟩ x3).setCell ⟨b, 4, none⟩ x4).setCell ⟨b, 5, none⟩ x5) (hb : w.heap[b]? = some (.cells #[y0, y1, y2, y3, y4, y5] T (0, 0))) :
    wn.heap[b]? = some (.cells #[x0, x1, x2, x3, x4, x5] T (0, 0)) ∧ (∀ j o, j ≠ b → w.heap[j]? = some o → wn.heap[j]? = some o) ∧ (∀ l, RestAt w0 br w l → b ≠ br → w0.heap.size ≤ b → RestAt w0 br wn l) ∧ (∀ W, Wr br W w → W.heap.size ≤ b → Wr br W wn) := by
  subst h
  refine ⟨by simpa using block_set (i := 5) (block_set (i := 4) (block_set (i := 3) (block_set (i := 2) (block_set (i := 1) (block_set (i := 0) hb x0) x1) x2) x3) x4) x5, fun j o hj ho => set_other (set_other (set_other (set_other (set_other (set_other ho hj) hj) hj) hj) hj) hj, fun l hl hne hk => (((((hl.setOther hne hk _).setOther hne hk _).setOther hne hk _).setOther hne hk _).setOther hne hk _).setOther hne hk _, fun W hw hk => (((((hw.setOther hk _).setOther hk _).setOther hk _).setOther hk _).setOther hk _).setOther hk _⟩
/-- The worlds of the last region. -/
def PtS (br bn a3 a4 : Nat) (u0 u1 u2 u3 : Value) (w w' : World) : Prop := Wr br w w' ∧ w'.heap[a3]? = some (.cells #[u0, u1] 28 (0, 0)) ∧ w'.heap[a4]? = some (.cells #[u2, u3] 28 (0, 0)) ∧ w'.heap[bn]? = some (.cells #[nextV br] 141 (0, 0))
theorem PtS.wr {br bn a3 a4 : Nat} {u0 u1 u2 u3 : Value} {w w1 w2 : World} (h : PtS br bn a3 a4 u0 u1 u2 u3 w w1) (k : Wr br w1 w2) (h3 : a3 ≠ br) (h4 : a4 ≠ br) (hn : bn ≠ br) : PtS br bn a3 a4 u0 u1 u2 u3 w w2 := ⟨h.1.trans k, k.block_ne h.2.1 h3, k.block_ne h.2.2.1 h4, k.block_ne h.2.2.2 hn⟩
theorem alloc_size {w W : World} {o : Obj} (h : W = w.alloc o) : w.heap.size < W.heap.size := by rw [h]; simp
theorem addr_name {w : World} {a : Nat} {o : Obj} (h : w.heap[a]? = some o) : ∃ n, a = n := ⟨a, rfl⟩
set_option maxHeartbeats 8000000 in
theorem shFrom31_at (w0 : World) (br bn bp : Nat) (l : List Int) (w : World) (h : RestAt w0 br w l) (hf : w.heap[bn]? = some (.cells #[nextV br] 141 (0, 0))) (hp : w.heap[bp]? = some (.cells #[pointV bn] 142 (0, 0))) (hne : bn ≠ br) (hpe : bp ≠ br) {s : Sec} {t : List Int} (hs : rdSec l = (s, t)) :
    Calls Tryz.prog 120 #[.pointer (some ⟨bp, 0, none⟩), .pointer (some ⟨bn, 0, none⟩)] w (ReadsP w0 br (.agg #[.int .i64 s.fx, .int .i64 s.fy, .int .i64 s.tx, .int .i64 s.ty, .int .i64 s.col, .int .i64 s.rng]) t w) := by
  have hbr := h.lt
  have hw0 : w0.heap.size ≤ w.heap.size := by obtain ⟨_, _, _, _, h3, _⟩ := h; exact h3.size
  obtain ⟨v0, v1, v2, v3, v4, v5⟩ := s
  obtain ⟨l1, h1⟩ : ∃ t, l.drop 2 = t := ⟨_, rfl⟩
  obtain ⟨l2, h2⟩ : ∃ t, l1.drop 2 = t := ⟨_, rfl⟩
  obtain ⟨l3, h3⟩ : ∃ t, l2.drop 1 = t := ⟨_, rfl⟩
  unfold rdSec at hs
  have e1 := congrArg Prod.snd hs
  have e2 := congrArg Prod.fst hs
  simp only [Sec.mk.injEq] at e1 e2
  obtain ⟨k0, k1, k2, k3, k4, k5⟩ := e2
  have K0 := Lib.hid k0
  have K1 := Lib.hid k1
  have K2 := Lib.hid (show l1.getD 0 0 = v2 by rw [← k2, ← h1]; simp [List.getD])
  have K3 := Lib.hid (show l1.getD 1 0 = v3 by rw [← k3, ← h1]; simp [List.getD])
  have K4 := Lib.hid (show l2.getD 0 0 = v4 by rw [← k4, ← h2, ← h1]; simp [List.getD])
  have K5 := Lib.hid (show l3.getD 0 0 = v5 by rw [← k5, ← h3, ← h2, ← h1]; simp [List.getD])
  have L1 := Lib.hid h1
  have L2 := Lib.hid h2
  have L3 := Lib.hid h3
  have L4 := Lib.hid (show l3.drop 1 = t by rw [← e1, ← h3, ← h2, ← h1]; simp)
  have hbn := lt_block hf
  have hbp := lt_block hp
  have HR := Lib.hid h
  have HF := Lib.hid hf
  have HP := Lib.hid hp
  clear h hf hp hs h1 h2 h3 e1 k0 k1 k2 k3 k4 k5
  go_enter Tryz.func120, Tryz.ntmps120
  go_wp2_with fail
  refine wp_named fun W hW => ?_
  obtain ⟨hX, hB0⟩ := box1 hW
  have hsW : w.heap.size < W.heap.size := by rw [hW]; simp
  clear hW
  have HB0 := Lib.hid hB0
  have hR := HR.out.later (below_step hB0 (Below.refl W.heap.size W).drew)
  have hX := block_later (Below.refl W.heap.size W).drew hX
  have HN := Lib.hid (block_later hB0 HF.out)
  have HQ := Lib.hid (block_later hB0 HP.out)
  have FC := Lib.hid (fun w' (hw : Wr br W w') => cell_block (hw.block_ne HQ.out hpe) 0)
  have hWs := Wr.of_below (b := br) (Below.refl W.heap.size W).drew
  refine wp_region_planS (Wr br W) (.take 0 (.take 1 (.three 0 (.three 0 (.two 0 (.only 0 (.only 0 (.only 0 .done))) 1 (.only 0 (.only 0 (.only 0 .done)))) 1 (.two 0 (.only 0 (.only 0 (.only 0 .done))) 1 (.only 0 (.only 0 (.only 0 .done)))) 2 (.two 0 (.only 0 (.only 0 (.only 0 .done))) 1 (.only 0 (.only 0 (.only 0 .done))))) 2 (.two 0 (.two 0 (.only 0 (.only 0 (.only 0 .done))) 1 (.only 0 (.only 0 (.only 0 .done)))) 2 (.only 0 (.only 0 (.only 0 (.only 0 .done))))) 3 (.two 0 (.two 0 (.only 0 (.only 0 (.only 0 .done))) 1 (.only 0 (.only 0 (.only 0 .done)))) 2 (.only 0 (.only 0 (.only 0 (.only 0 .done)))))))) (by kernel_rfl) (by kernel_rfl) (Wr.of_below (Below.refl _ _).drew) (fun hP => ?_)
  have hsd : W.heap.size ≤ (World.drew W).heap.size := Nat.le_refl _
  generalize hWd : World.drew W = Wd at hP hR hX hWs hsd ⊢
  clear hWd
  repeat' (first
    | (refine wsPlan_two ?_ ?_)
    | (refine wsPlan_three ?_ ?_ ?_)
    | (refine wsPlan_take rfl (fun K hK => ?_); replace hK := Lib.hid hK; go_simp; first | (refine hK.out _ ?_; clear hK K) | (apply Exists.intro; refine ⟨fun w' hw => ?_, hK.out _ ?_⟩; (first | with_reducible exact rfl | (have fc := FC.out w' hw; go_simp; exact rfl)); clear hK K))
    | (refine wsPlan_only rfl (fun K hK => ?_); replace hK := Lib.hid hK; (first | (have fD := free_block hD; have uD := cell_block hD; go_simp; (generalize hwn : World.setCell (World.setCell _ _ _) _ _ = wn; obtain ⟨hE, ho, hr, hw⟩ := pt_set (w0 := w0) (br := br) hwn.symm hD; have hC := ho _ _ (by omega) hC; have hR := hr _ hR (by omega) (by omega); have hWs := hw _ hWs (by omega); have hX := ho _ _ (by omega) hX; clear hD hwn ho hr hw)) | (have fA := free_block hA; have fB := free_block hB; have uA := cell_block hA; have uB := cell_block hB; go_simp; (generalize hwn : World.setCell (World.setCell _ _ _) _ _ = wn; (first | (obtain ⟨hC, ho, hr, hw⟩ := pt_set (w0 := w0) (br := br) hwn.symm hA; have hD := ho _ _ (by omega) hB) | (obtain ⟨hC, ho, hr, hw⟩ := pt_set (w0 := w0) (br := br) hwn.symm hB; have hD := ho _ _ (by omega) hA)); have hR := hr _ hR (by omega) (by omega); have hWs := hw _ hWs (by omega); have hX := ho _ _ (by omega) hX; clear hA hB hwn ho hr hw)) | (go_simp; first | (go_at_call 114; (with_reducible refine (shFrom2_at w0 br bn l _ hR (hWs.block_ne HN.out hne) hne K0.out K1.out L1.out).mono ?_); rintro e wx ⟨rfl, hR, hwx⟩; (try have hA := hwx.block_ne hA (by omega)); (try have hB := hwx.block_ne hB (by omega)); have hX := hwx.block_ne hX (by omega); have hsz := hwx.size; have hWs := hWs.trans hwx) | (go_at_call 114; (with_reducible refine (shFrom2_at w0 br bn l1 _ hR (hWs.block_ne HN.out hne) hne K2.out K3.out L2.out).mono ?_); rintro e wx ⟨rfl, hR, hwx⟩; (try have hA := hwx.block_ne hA (by omega)); (try have hB := hwx.block_ne hB (by omega)); have hX := hwx.block_ne hX (by omega); have hsz := hwx.size; have hWs := hWs.trans hwx) | (generalize hwn : World.alloc _ (Obj.cells #[Value.int .i64 0, Value.int .i64 0] 28) = wn; obtain ⟨hq, hbn⟩ := box1 hwn.symm; have hsz := alloc_size hwn.symm; clear hwn; have hR := hR.later hbn; have hWs := hWs.trans (Wr.of_below hbn); have hX := block_later hbn hX; (try have hB := block_later hbn hA); have hA := hq; clear hq) | skip)); refine hK.out _ _ (by first | assumption | exact hP) (fun hP => ?_); clear hK K))
  all_goals refine wsPlan_done ?_
  all_goals
    obtain ⟨a3, ha3⟩ := addr_name hC
    obtain ⟨a4, ha4⟩ := addr_name hE
    have n1 : a3 ≠ br := by omega
    have n2 : a4 ≠ br := by omega
    have n3 : a3 ≠ w.heap.size := by omega
    have n4 : a4 ≠ w.heap.size := by omega
    simp only [ha3, ha4] at hC hE ⊢
    clear ha3 ha4
    have hnn := hWs.block_ne HN.out hne
    have c0 := cell_block hnn 0
    go_wp2_with fail
    (with_reducible refine (shFrom1_at w0 br l2 _ hR K4.out L3.out).mono ?_)
    rintro e w5 ⟨rfl, hR, hwx⟩
    have hC := hwx.block_ne hC n1
    have hE := hwx.block_ne hE n2
    have hX := hwx.block_ne hX (by omega)
    have hnn := hwx.block_ne hnn hne
    have hWs := hWs.trans hwx
    clear c0 hwx
    go_wp2_with fail
    have hsz5 := hWs.size
    have hWf := (Wr.of_below (b := br) HB0.out).trans hWs
    refine wp_named fun W5 hW5 => ?_
    have hR5 := hR
    rw [← hW5] at hR5 hC hE hX hnn hWf
    clear hR hWs hW5
    refine wp_region_planS (PtS br bn a3 a4 (.int .i64 v0) (.int .i64 v1) (.int .i64 v2) (.int .i64 v3) w) (.take 0 (.take 0 (.take 0 (.take 0 (.only 0 (.take 0 (.only 0 .done))))))) (by kernel_rfl) (by kernel_rfl) (⟨hWf.past (Below.refl _ _).drew, hC, hE, hnn⟩) (fun hP => ?_)
    have hR5 := hR5.past (Below.refl W5.heap.size W5).drew hR5.lt
    have hX := block_later (Below.refl W5.heap.size W5).drew hX
    generalize hWd : World.drew W5 = Wd at hP hR5 hX ⊢
    clear hWd
    repeat' (first
      | (refine wsPlan_two ?_ ?_)
      | (refine wsPlan_three ?_ ?_ ?_)
      | (refine wsPlan_take rfl (fun K hK => ?_); replace hK := Lib.hid hK; go_simp; first | (refine hK.out _ ?_; clear hK K) | (apply Exists.intro; refine ⟨fun w' hw => ?_, hK.out _ ?_⟩; (first | with_reducible exact rfl | (have hq := hw.2.1; have h4q := hw.2.2.1; have hnq := hw.2.2.2; have k3 := cell_block hq; have k4 := cell_block h4q; have kn := cell_block hnq 0; go_simp; exact rfl)); clear hK K))
      | (refine wsPlan_only rfl (fun K hK => ?_); replace hK := Lib.hid hK; (first | (go_simp; (go_at_call 113; (with_reducible refine (shFrom1_at w0 br l3 _ hR5 K5.out L4.out).mono ?_); rintro e wx ⟨rfl, hR5, hwx⟩; have hP := hP.wr hwx n1 n2 hne; have hX := hwx.block_ne hX (by omega))) | (have fX := free_block hX; have uX := cell_block hX; go_simp; generalize hwn : World.setCell (World.setCell (World.setCell (World.setCell (World.setCell (World.setCell _ _ _) _ _) _ _) _ _) _ _) _ _ = wn; obtain ⟨hX, ho, hr, hw⟩ := sec_set (w0 := w0) (br := br) hwn.symm hX; have hR5 := hr _ hR5 (by omega) (by omega); have hP : PtS br bn a3 a4 (.int .i64 v0) (.int .i64 v1) (.int .i64 v2) (.int .i64 v3) w wn := ⟨hw _ hP.1 (Nat.le_refl _), ho _ _ n3 hP.2.1, ho _ _ n4 hP.2.2.1, ho _ _ (by omega) hP.2.2.2⟩; clear hwn ho hr hw) | (go_simp; first | skip)); refine hK.out _ _ (by first | assumption | exact hP) (fun hP => ?_); clear hK K))
    all_goals refine wsPlan_done ?_
    go_wp2_with fail
    have c9 := cell_block hX
    exact bodyPost_ret (v := (.agg #[.int .i64 v0, .int .i64 v1, .int .i64 v2, .int .i64 v3, .int .i64 v4, .int .i64 v5])) (by simp [results, Tryz.results120, go_sem, c9]) rfl ⟨rfl, hR5, hP.1⟩
end Go.Proofs.YtdmegkkifiahdaaGreat
