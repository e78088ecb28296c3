/- The head of chapter 20's laws answers true. -/
import Derived.Test.YtdmegkkifiahdaaGreatKI
import Derived.Test.YtdmegkkifiahdaaGreatSame7
import Derived.Deep.CutRange
namespace Go.Proofs.YtdmegkkifiahdaaGreat
open Go.RowKit Go.Shelf
attribute [local go_sem] bqOp bqAll bqUpon sqOp sqAll sqUpon ssAll ssOp
attribute [local irreducible] wpQuiet wpBQ wpPlan wsPlan
set_option linter.unusedVariables false
theorem lists_empty {k : Nat} {w W : World} {v : Value} {X : Nat → Nat → Int} (h : Lists k w v 0 X) : Lists k W v 0 X := by
  refine ⟨?_, h.cap⟩
  obtain ⟨ad, c, hv, hn, _⟩ := h.rows
  exact ⟨ad, c, hv, hn, fun i hi => absurd hi (Nat.not_lt_zero i)⟩
theorem parts_empty {w W : World} {f : Feat} {va vs : Value} (h : PartsAt w f va vs) (ha : f.area = []) (hs : f.secs = []) : PartsAt W f va vs := by
  obtain ⟨h1, h2⟩ := h
  unfold PtsAt at h1
  unfold SecsAt at h2
  unfold PartsAt PtsAt SecsAt
  rw [ha] at h1 ⊢
  rw [hs] at h2 ⊢
  exact ⟨lists_empty h1, lists_empty h2⟩
theorem secs_later {w w' : World} {v : Value} {l : List Sec} (h : SecsAt w v l) (hb : Below w.heap.size w w') : SecsAt w' v l := Lists.later h hb
theorem setN {n₀ g i : Nat} {a w : World} (h : Below n₀ a w) (hg : n₀ ≤ g) (v : Value) : Below n₀ a (w.setCell ⟨g, i, none⟩ v) := h.setCell (p := ⟨g, i, none⟩) hg v
theorem box8 {w W : World} {o1 o2 o3 o4 o5 o6 o7 o8 : Obj} (h : W = (((((((w.alloc o1).alloc o2).alloc o3).alloc o4).alloc o5).alloc o6).alloc o7).alloc o8) : W.heap[w.heap.size]? = some o1 ∧ W.heap[w.heap.size + 1]? = some o2 ∧ W.heap[w.heap.size + 2]? = some o3 ∧ W.heap[w.heap.size + 3]? = some o4 ∧ W.heap[w.heap.size + 4]? = some o5 ∧ W.heap[w.heap.size + 5]? = some o6 ∧ W.heap[w.heap.size + 6]? = some o7 ∧ W.heap[w.heap.size + 7]? = some o8 ∧ Below w.heap.size w W := by
  obtain ⟨a1, a2, a3, a4, a5, a6, a7, hb⟩ := box7 (rfl : ((((((w.alloc o1).alloc o2).alloc o3).alloc o4).alloc o5).alloc o6).alloc o7 = _)
  subst h
  have hs : (((((((w.alloc o1).alloc o2).alloc o3).alloc o4).alloc o5).alloc o6).alloc o7).heap.size = w.heap.size + 7 := by simp
  exact ⟨block_alloc a1, block_alloc a2, block_alloc a3, block_alloc a4, block_alloc a5, block_alloc a6, block_alloc a7, by rw [← hs]; exact block_new _ _, hb.alloc (by omega) _⟩
theorem marks_block {w : World} {b : Nat} {T : TypeId} {mm : Nat × Nat} (h : w.heap[b]? = some (.cells #[.int .i64 6, .int .i64 2, .int .i64 2, .int .i64 7, .int .i64 4, .int .i64 2] T mm)) : MksAt w (.slice (some ⟨b, 0, none⟩) 2 2) hdK.marks :=
  ⟨_, _, rfl, by decide, fun i hi => ⟨b, 0, rfl, fun j hj => by
    have hi2 : i < 2 := hi
    have c := cell_block h
    rw [c]
    obtain rfl | rfl : i = 0 ∨ i = 1 := by omega
    · obtain rfl | rfl | rfl : j = 0 ∨ j = 1 ∨ j = 2 := by omega
      · rfl
      · rfl
      · rfl
    · obtain rfl | rfl | rfl : j = 0 ∨ j = 1 ∨ j = 2 := by omega
      · rfl
      · rfl
      · rfl⟩⟩
theorem sec_block {w : World} {b : Nat} {s : Sec} {T : TypeId} {mm : Nat × Nat} (h : w.heap[b]? = some (.cells #[.int .i64 s.fx, .int .i64 s.fy, .int .i64 s.tx, .int .i64 s.ty, .int .i64 s.col, .int .i64 s.rng] T mm)) : SecsAt w (.slice (some ⟨b, 0, none⟩) 1 1) [s] :=
  ⟨⟨_, _, rfl, by simp, fun i hi => ⟨b, 0, rfl, fun j hj => by
    have hi2 : i < 1 := hi
    have c := cell_block h
    rw [c]
    obtain rfl : i = 0 := by omega
    obtain rfl | rfl | rfl | rfl | rfl | rfl : j = 0 ∨ j = 1 ∨ j = 2 ∨ j = 3 ∨ j = 4 ∨ j = 5 := by omega
    · rfl
    · rfl
    · rfl
    · rfl
    · rfl
    · rfl⟩⟩, fun _ _ _ e => by cases e; exact Nat.le_refl _⟩
theorem pts_none (w : World) : PtsAt w (.slice none 0 0) [] := (PartsAt.zero w).1
theorem hd_featA {b : Nat} {f g : Feat} {k : Int} {aa ab : Option Addr} {na ca ns cs : Nat} {w : World} (hr : featR hdA hdK hdK f = (g, k)) (hm : MksAt w (.slice (some ⟨b, 0, none⟩) 2 2) hdK.marks) (hp : PartsAt w f (.slice aa na ca) (.slice ab ns cs)) :
    Calls Tryz.prog 51 #[.agg #[.int .i64 1000000, .int .i64 0, .int .i64 10, .int .i64 0, .int .i64 1000000, .int .i64 0, .int .i64 3], .agg #[.int .i64 1, .slice (some ⟨b, 0, none⟩) 2 2], .agg #[.int .i64 1, .slice (some ⟨b, 0, none⟩) 2 2], featV f (.slice aa na ca) (.slice ab ns cs)] w (FeatGive w.heap.size g k w) :=
  trFeature_any hdA hdK hdK _ _ f aa na ca ab ns cs w hm hm hp hr
theorem hd_featB {b q : Nat} {w : World} (hm : MksAt w (.slice (some ⟨b, 0, none⟩) 2 2) hdK.marks) (hp : SecsAt w (.slice (some ⟨q, 0, none⟩) 1 1) [⟨1, 0, 0, 1, 1, 50⟩]) :
    Calls Tryz.prog 51 #[.agg #[.int .i64 0, .int .i64 (-1000000), .int .i64 0, .int .i64 1000000, .int .i64 0, .int .i64 0, .int .i64 0], .agg #[.int .i64 1, .slice (some ⟨b, 0, none⟩) 2 2], .agg #[.int .i64 1, .slice (some ⟨b, 0, none⟩) 2 2], .agg #[.int .i64 2, .int .i64 4, .int .i64 5, .int .i64 0, .int .i64 0, .slice none 0 0, .int .i64 0, .int .i64 7, .slice (some ⟨q, 0, none⟩) 1 1]] w (FeatGive w.heap.size hdM 0 w) :=
  trFeature_any hdB hdK hdK _ _ hdL none 0 0 _ 1 1 w hm hm ⟨pts_none w, hp⟩ hd2
theorem hd_same {q : Nat} {va vs : Value} {w : World} (hp : PartsAt w hdM va vs) (hs : SecsAt w (.slice (some ⟨q, 0, none⟩) 1 1) [⟨0, 1, -1, 0, 1, 50⟩]) :
    Calls Tryz.prog 43 #[featV hdM va vs, .agg #[.int .i64 2, .int .i64 4, .int .i64 0, .int .i64 5, .int .i64 0, .slice none 0 0, .int .i64 0, .int .i64 7, .slice (some ⟨q, 0, none⟩) 1 1]] w fun e w' => e = .returned (.bool true) ∧ Below w.heap.size w w' :=
  q07Same_any hdM hdM va vs (.slice none 0 0) (.slice (some ⟨q, 0, none⟩) 1 1) w hp.1 hp.2 (pts_none w) hs (decide_eq_true rfl)
theorem hd_same1 {f : Feat} {va vs ua us : Value} {w : World} (hp : PartsAt w f va vs) (hq : PartsAt w f ua us) :
    Calls Tryz.prog 43 #[featV f va vs, featV f ua us] w fun e w' => e = .returned (.bool true) ∧ Below w.heap.size w w' :=
  q07Same_any f f va vs ua us w hp.1 hp.2 hq.1 hq.2 (decide_eq_true rfl)
theorem hd_stand {x r : Int} {u : Bool} {w : World} (hg : FeatOk (wreckF x r 6)) (hn : nearV hdA (1, 2) (x, 2) (r - 3) = (u, true)) :
    Calls Tryz.prog 57 #[.agg #[.int .i64 1000000, .int .i64 0, .int .i64 10, .int .i64 0, .int .i64 1000000, .int .i64 0, .int .i64 3], featV (wreckF 1 3 6) (.slice none 0 0) (.slice none 0 0), featV (wreckF x r 6) (.slice none 0 0) (.slice none 0 0)] w fun e w' => e = .returned (.tuple #[.bool u, .int .i64 0]) ∧ Below w.heap.size w w' :=
  trStands_disc hdA (wreckF 1 3 6) (wreckF x r 6) none 0 0 none 0 0 none 0 0 none 0 0 w (PartsAt.zero w) (PartsAt.zero w) hdA_ok wk1 hg rfl (by decide) (by decide) (by show nearV hdA (1, 2) (x, 2) (r - grownD hdA 3) = _; rw [hd_grown]; exact hn) (by show (u && decide ((9 : Int) ≤ 9)) = u; simp)
set_option maxRecDepth 100000 in
set_option maxHeartbeats 8000000 in
theorem head20_true (w : World) : Calls Tryz.prog 48 #[] w fun e w' => e = .returned (.bool true) ∧ Below w.heap.size w w' := by
  go_enter Tryz.func48, Tryz.ntmps48
  go_wp2_with fail
  refine wp_named fun W hW => ?_
  obtain ⟨p0, p1, p2, p3, p4, p5, p6, p7, hB⟩ := box8 hW
  clear hW
  simp only [Nat.add_assoc, Nat.reduceAdd] at p0 p1 p2 p3 p4 p5 p6 p7 ⊢
  have MK := Lib.hid (marks_block p0)
  have P1 : Hid (W.heap[w.heap.size + 1]? = some (.cells #[.int .i64 1, .slice (some ⟨w.heap.size, 0, none⟩) 2 2] 72 (0, 0))) := Lib.hid p1
  have P2 : Hid (W.heap[w.heap.size + 2]? = some (.cells #[.int .i64 1000000, .int .i64 0, .int .i64 10, .int .i64 0, .int .i64 1000000, .int .i64 0, .int .i64 3] 52 (0, 0))) := Lib.hid p2
  have P3 : Hid (W.heap[w.heap.size + 3]? = some (.cells #[.int .i64 0, .int .i64 (-1000000), .int .i64 0, .int .i64 1000000, .int .i64 0, .int .i64 0, .int .i64 0] 52 (0, 0))) := Lib.hid p3
  have S4 := Lib.hid (sec_block (s := ⟨1, 0, 0, 1, 1, 50⟩) p4)
  have P5 : Hid (W.heap[w.heap.size + 5]? = some (.cells #[.int .i64 2, .int .i64 4, .int .i64 5, .int .i64 0, .int .i64 0, .slice none 0 0, .int .i64 0, .int .i64 7, .slice (some ⟨w.heap.size + 4, 0, none⟩) 1 1] 32 (0, 0))) := Lib.hid p5
  have S6 := Lib.hid (sec_block (s := ⟨0, 1, -1, 0, 1, 50⟩) p6)
  have P7 : Hid (W.heap[w.heap.size + 7]? = some (.cells #[.int .i64 2, .int .i64 4, .int .i64 0, .int .i64 5, .int .i64 0, .slice none 0 0, .int .i64 0, .int .i64 7, .slice (some ⟨w.heap.size + 6, 0, none⟩) 1 1] 32 (0, 0))) := Lib.hid p7
  have HB := Lib.hid hB
  obtain ⟨w0, hw0⟩ : ∃ x, x = W := ⟨_, rfl⟩
  subst hw0
  have hC0 := Below.refl w0.heap.size w0
  clear p0 p1 p2 p3 p4 p5 p6 p7 hB
  go_cut [6, 7] from 37 to 44 (fun s6 s7 wx => ∃ (g : Nat) (a2 : Option Addr) (n2 c2 : Nat) (b2 : Option Addr) (m2 d2 : Nat), s6 = .pointer (some ⟨g, 0, none⟩) ∧ s7 = .int .i64 0 ∧ Below w0.heap.size w0 wx ∧ wx.heap[g]? = some (.cells #[.int .i64 (wreckF 11 8 6).id, .int .i64 (wreckF 11 8 6).kind, .int .i64 (wreckF 11 8 6).x, .int .i64 (wreckF 11 8 6).y, .int .i64 (wreckF 11 8 6).rad, (.slice a2 n2 c2), .int .i64 (wreckF 11 8 6).dep, .int .i64 (wreckF 11 8 6).sym, (.slice b2 m2 d2)] 32 (0, 0)) ∧ PartsAt wx (wreckF 11 8 6) (.slice a2 n2 c2) (.slice b2 m2 d2))
  case first =>
    have q1 := block_later (Below.refl _ w0) P1.out
    have q2 := block_later (Below.refl _ w0) P2.out
    have F1 : ∀ w', Below w0.heap.size w0 w' → ∀ i, w'.cell? ⟨w.heap.size + 1, i, none⟩ = #[.int .i64 1, .slice (some ⟨w.heap.size, 0, none⟩) 2 2][i]? := fun w' hw i => cell_block (block_later hw q1) i
    have F2 : ∀ w', Below w0.heap.size w0 w' → ∀ i, w'.cell? ⟨w.heap.size + 2, i, none⟩ = #[.int .i64 1000000, .int .i64 0, .int .i64 10, .int .i64 0, .int .i64 1000000, .int .i64 0, .int .i64 3][i]? := fun w' hw i => cell_block (block_later hw q2) i
    have M0 := Lib.hid (MK.out.later (Below.refl _ w0))
    clear q1 q2
    refine wp_region_planS (Below w0.heap.size w0) (.take 0 (.take 0 (.take 0 (.two 0 (.two 0 (.take 0 (.take 0 (.take 0 (.only 0 (.only 0 (.take 0 .done)))))) 4 (.only 0 (.take 0 (.take 0 (.take 0 (.only 0 (.take 0 .done))))))) 5 (.only 0 (.only 0 (.take 0 (.take 0 (.take 0 (.only 0 (.take 0 .done))))))))))) (by kernel_rfl) (by kernel_rfl) (Below.refl _ _).drew (fun hP => ?_)
    generalize w0.drew = wD at hP ⊢
    (refine wsPlan_take rfl (fun K hK => ?_); replace hK := Lib.hid hK; go_simp; first | (refine hK.out _ ?_; clear hK K) | (apply Exists.intro; refine ⟨fun w' hw => ?_, hK.out _ ?_⟩; (first | with_reducible exact rfl | (have f1 := F1 w' hw; have f2 := F2 w' hw; go_simp; exact rfl)); clear hK K))
    (refine wsPlan_take rfl (fun K hK => ?_); replace hK := Lib.hid hK; go_simp; first | (refine hK.out _ ?_; clear hK K) | (apply Exists.intro; refine ⟨fun w' hw => ?_, hK.out _ ?_⟩; (first | with_reducible exact rfl | (have f1 := F1 w' hw; have f2 := F2 w' hw; go_simp; exact rfl)); clear hK K))
    (refine wsPlan_take rfl (fun K hK => ?_); replace hK := Lib.hid hK; go_simp; first | (refine hK.out _ ?_; clear hK K) | (apply Exists.intro; refine ⟨fun w' hw => ?_, hK.out _ ?_⟩; (first | with_reducible exact rfl | (have f1 := F1 w' hw; have f2 := F2 w' hw; go_simp; exact rfl)); clear hK K))
    refine wsPlan_two ?_ ?_
    · skip
      (refine wsPlan_only rfl (fun K hK => ?_); replace hK := Lib.hid hK; go_simp; go_at_call 134; (with_reducible refine (l20wreck_any _ _ _ _).mono ?_); rintro z wr ⟨rfl, hbr⟩; have hPr := below_step hP hbr; refine hK.out _ _ (hPr) (fun hP => ?_); clear hK K)
      refine wsPlan_two ?_ ?_
      · skip
        (refine wsPlan_only rfl (fun K hK => ?_); replace hK := Lib.hid hK; go_simp; go_at_call 51; (with_reducible refine (hd_featA hd1 (M0.out.later hP) (PartsAt.zero _)).mono ?_); rintro z wf ⟨a2, n2, c2, b2, m2, d2, rfl, hsep, hbf⟩; have hPf := below_step hP hbf; refine hK.out _ _ (hPf) (fun hP => ?_); clear hK K)
        (refine wsPlan_take rfl (fun K hK => ?_); replace hK := Lib.hid hK; go_simp; first | (refine hK.out _ ?_; clear hK K) | (apply Exists.intro; refine ⟨fun w' hw => ?_, hK.out _ ?_⟩; (first | with_reducible exact rfl | (have f1 := F1 w' hw; have f2 := F2 w' hw; go_simp; exact rfl)); clear hK K))
        (refine wsPlan_take rfl (fun K hK => ?_); replace hK := Lib.hid hK; go_simp; first | (refine hK.out _ ?_; clear hK K) | (apply Exists.intro; refine ⟨fun w' hw => ?_, hK.out _ ?_⟩; (first | with_reducible exact rfl | (have f1 := F1 w' hw; have f2 := F2 w' hw; go_simp; exact rfl)); clear hK K))
        (refine wsPlan_take rfl (fun K hK => ?_); replace hK := Lib.hid hK; go_simp; first | (refine hK.out _ ?_; clear hK K) | (apply Exists.intro; refine ⟨fun w' hw => ?_, hK.out _ ?_⟩; (first | with_reducible exact rfl | (have f1 := F1 w' hw; have f2 := F2 w' hw; go_simp; exact rfl)); clear hK K))
        have r9 := block_new wf (.cells #[.int .i64 0, .int .i64 0, .int .i64 0, .int .i64 0, .int .i64 0, .slice none 0 0, .int .i64 0, .int .i64 0, .slice none 0 0] 32)
        have f9 := free_block r9
        have c9 := cell_block r9
        (refine wsPlan_only rfl (fun K hK => ?_); replace hK := Lib.hid hK; go_simp; skip; refine hK.out _ _ (hP.alloc hP.size _) (fun hP => ?_); clear hK K)
        (refine wsPlan_only rfl (fun K hK => ?_); replace hK := Lib.hid hK; go_simp; skip; refine hK.out _ _ (by with_reducible exact hPf.alloc hPf.size _) (fun hP => ?_); clear hK K)
        (refine wsPlan_take rfl (fun K hK => ?_); replace hK := Lib.hid hK; go_simp; first | (refine hK.out _ ?_; clear hK K) | (apply Exists.intro; refine ⟨fun w' hw => ?_, hK.out _ ?_⟩; (first | with_reducible exact rfl | (have f1 := F1 w' hw; have f2 := F2 w' hw; go_simp; exact rfl)); clear hK K))
        have hal := (Below.refl wf.heap.size wf).alloc (Nat.le_refl _) (.cells #[.int .i64 (wreckF 11 8 6).id, .int .i64 (wreckF 11 8 6).kind, .int .i64 (wreckF 11 8 6).x, .int .i64 (wreckF 11 8 6).y, .int .i64 (wreckF 11 8 6).rad, .slice a2 n2 c2, .int .i64 (wreckF 11 8 6).dep, .int .i64 (wreckF 11 8 6).sym, .slice b2 m2 d2] 32)
        have PT := Lib.hid (hsep _ (KeepPS.of_below hal))
        have r8 := block_new wf (.cells #[.int .i64 (wreckF 11 8 6).id, .int .i64 (wreckF 11 8 6).kind, .int .i64 (wreckF 11 8 6).x, .int .i64 (wreckF 11 8 6).y, .int .i64 (wreckF 11 8 6).rad, .slice a2 n2 c2, .int .i64 (wreckF 11 8 6).dep, .int .i64 (wreckF 11 8 6).sym, .slice b2 m2 d2] 32)
        refine wsPlan_done ?_
        have HBL := Lib.hid r8
        have HPP := Lib.hid hP
        clear F1 F2 f9 c9
        go_wp2_with fail
        go_meet
        exact ⟨_, a2, n2, c2, b2, m2, d2, rfl, rfl, HPP.out, HBL.out, PT.out⟩
      · skip
        have r8 := block_new (wr) (.cells #[.int .i64 0, .int .i64 0, .int .i64 0, .int .i64 0, .int .i64 0, .slice none 0 0, .int .i64 0, .int .i64 0, .slice none 0 0] 32)
        have hSZ : w0.heap.size ≤ (wr).heap.size := hP.size
        (refine wsPlan_only rfl (fun K hK => ?_); replace hK := Lib.hid hK; go_simp; skip; refine hK.out _ _ (hP.alloc hP.size _) (fun hP => ?_); clear hK K)
        (refine wsPlan_only rfl (fun K hK => ?_); replace hK := Lib.hid hK; go_simp; go_at_call 51; (with_reducible refine (hd_featA hd1 (M0.out.later hP) (PartsAt.zero _)).mono ?_); rintro z wf ⟨a2, n2, c2, b2, m2, d2, rfl, hsep, hbf⟩; have hPf := below_step hP hbf; refine hK.out _ _ (hPf) (fun hP => ?_); clear hK K)
        have r9 := block_later hbf r8
        have f9 := free_block r9
        have c9 := cell_block r9
        (refine wsPlan_take rfl (fun K hK => ?_); replace hK := Lib.hid hK; go_simp; first | (refine hK.out _ ?_; clear hK K) | (apply Exists.intro; refine ⟨fun w' hw => ?_, hK.out _ ?_⟩; (first | with_reducible exact rfl | (have f1 := F1 w' hw; have f2 := F2 w' hw; go_simp; exact rfl)); clear hK K))
        (refine wsPlan_take rfl (fun K hK => ?_); replace hK := Lib.hid hK; go_simp; first | (refine hK.out _ ?_; clear hK K) | (apply Exists.intro; refine ⟨fun w' hw => ?_, hK.out _ ?_⟩; (first | with_reducible exact rfl | (have f1 := F1 w' hw; have f2 := F2 w' hw; go_simp; exact rfl)); clear hK K))
        (refine wsPlan_take rfl (fun K hK => ?_); replace hK := Lib.hid hK; go_simp; first | (refine hK.out _ ?_; clear hK K) | (apply Exists.intro; refine ⟨fun w' hw => ?_, hK.out _ ?_⟩; (first | with_reducible exact rfl | (have f1 := F1 w' hw; have f2 := F2 w' hw; go_simp; exact rfl)); clear hK K))
        (refine wsPlan_only rfl (fun K hK => ?_); replace hK := Lib.hid hK; go_simp; skip; refine hK.out _ _ (by with_reducible exact (setN (setN (setN (setN (setN (setN (setN (setN (setN hP hSZ _) hSZ _) hSZ _) hSZ _) hSZ _) hSZ _) hSZ _) hSZ _) hSZ _)) (fun hP => ?_); clear hK K)
        (refine wsPlan_take rfl (fun K hK => ?_); replace hK := Lib.hid hK; go_simp; first | (refine hK.out _ ?_; clear hK K) | (apply Exists.intro; refine ⟨fun w' hw => ?_, hK.out _ ?_⟩; (first | with_reducible exact rfl | (have f1 := F1 w' hw; have f2 := F2 w' hw; go_simp; exact rfl)); clear hK K))
        have PT := Lib.hid (show PartsAt wf _ _ _ from hsep.parts)
        refine wsPlan_done ?_
        have HBL := Lib.hid (block_set (i := 8) (block_set (i := 7) (block_set (i := 6) (block_set (i := 5) (block_set (i := 4) (block_set (i := 3) (block_set (i := 2) (block_set (i := 1) (block_set (i := 0) r9 (.int .i64 (wreckF 11 8 6).id)) (.int .i64 (wreckF 11 8 6).kind)) (.int .i64 (wreckF 11 8 6).x)) (.int .i64 (wreckF 11 8 6).y)) (.int .i64 (wreckF 11 8 6).rad)) (.slice a2 n2 c2)) (.int .i64 (wreckF 11 8 6).dep)) (.int .i64 (wreckF 11 8 6).sym)) (.slice b2 m2 d2))
        have HPP := Lib.hid hP
        clear F1 F2 f9 c9
        go_wp2_with fail
        go_meet
        exact ⟨_, a2, n2, c2, b2, m2, d2, rfl, rfl, HPP.out, HBL.out, parts_empty PT.out rfl rfl⟩
    · skip
      have r8 := block_new (wD) (.cells #[.int .i64 0, .int .i64 0, .int .i64 0, .int .i64 0, .int .i64 0, .slice none 0 0, .int .i64 0, .int .i64 0, .slice none 0 0] 32)
      have hSZ : w0.heap.size ≤ (wD).heap.size := hP.size
      (refine wsPlan_only rfl (fun K hK => ?_); replace hK := Lib.hid hK; go_simp; skip; refine hK.out _ _ (hP.alloc hP.size _) (fun hP => ?_); clear hK K)
      (refine wsPlan_only rfl (fun K hK => ?_); replace hK := Lib.hid hK; go_simp; go_at_call 134; (with_reducible refine (l20wreck_any _ _ _ _).mono ?_); rintro z wr ⟨rfl, hbr⟩; have hPr := below_step hP hbr; refine hK.out _ _ (hPr) (fun hP => ?_); clear hK K)
      have r8 := block_later hbr r8
      (refine wsPlan_only rfl (fun K hK => ?_); replace hK := Lib.hid hK; go_simp; go_at_call 51; (with_reducible refine (hd_featA hd1 (M0.out.later hP) (PartsAt.zero _)).mono ?_); rintro z wf ⟨a2, n2, c2, b2, m2, d2, rfl, hsep, hbf⟩; have hPf := below_step hP hbf; refine hK.out _ _ (hPf) (fun hP => ?_); clear hK K)
      have r9 := block_later hbf r8
      have f9 := free_block r9
      have c9 := cell_block r9
      (refine wsPlan_take rfl (fun K hK => ?_); replace hK := Lib.hid hK; go_simp; first | (refine hK.out _ ?_; clear hK K) | (apply Exists.intro; refine ⟨fun w' hw => ?_, hK.out _ ?_⟩; (first | with_reducible exact rfl | (have f1 := F1 w' hw; have f2 := F2 w' hw; go_simp; exact rfl)); clear hK K))
      (refine wsPlan_take rfl (fun K hK => ?_); replace hK := Lib.hid hK; go_simp; first | (refine hK.out _ ?_; clear hK K) | (apply Exists.intro; refine ⟨fun w' hw => ?_, hK.out _ ?_⟩; (first | with_reducible exact rfl | (have f1 := F1 w' hw; have f2 := F2 w' hw; go_simp; exact rfl)); clear hK K))
      (refine wsPlan_take rfl (fun K hK => ?_); replace hK := Lib.hid hK; go_simp; first | (refine hK.out _ ?_; clear hK K) | (apply Exists.intro; refine ⟨fun w' hw => ?_, hK.out _ ?_⟩; (first | with_reducible exact rfl | (have f1 := F1 w' hw; have f2 := F2 w' hw; go_simp; exact rfl)); clear hK K))
      (refine wsPlan_only rfl (fun K hK => ?_); replace hK := Lib.hid hK; go_simp; skip; refine hK.out _ _ (by with_reducible exact (setN (setN (setN (setN (setN (setN (setN (setN (setN hP hSZ _) hSZ _) hSZ _) hSZ _) hSZ _) hSZ _) hSZ _) hSZ _) hSZ _)) (fun hP => ?_); clear hK K)
      (refine wsPlan_take rfl (fun K hK => ?_); replace hK := Lib.hid hK; go_simp; first | (refine hK.out _ ?_; clear hK K) | (apply Exists.intro; refine ⟨fun w' hw => ?_, hK.out _ ?_⟩; (first | with_reducible exact rfl | (have f1 := F1 w' hw; have f2 := F2 w' hw; go_simp; exact rfl)); clear hK K))
      have PT := Lib.hid (show PartsAt wf _ _ _ from hsep.parts)
      refine wsPlan_done ?_
      have HBL := Lib.hid (block_set (i := 8) (block_set (i := 7) (block_set (i := 6) (block_set (i := 5) (block_set (i := 4) (block_set (i := 3) (block_set (i := 2) (block_set (i := 1) (block_set (i := 0) r9 (.int .i64 (wreckF 11 8 6).id)) (.int .i64 (wreckF 11 8 6).kind)) (.int .i64 (wreckF 11 8 6).x)) (.int .i64 (wreckF 11 8 6).y)) (.int .i64 (wreckF 11 8 6).rad)) (.slice a2 n2 c2)) (.int .i64 (wreckF 11 8 6).dep)) (.int .i64 (wreckF 11 8 6).sym)) (.slice b2 m2 d2))
      have HPP := Lib.hid hP
      clear F1 F2 f9 c9
      go_wp2_with fail
      go_meet
      exact ⟨_, a2, n2, c2, b2, m2, d2, rfl, rfl, HPP.out, HBL.out, parts_empty PT.out rfl rfl⟩
  case rest =>
    obtain ⟨g1, a1, n1, c1, b1, m1, d1, rfl, rfl, hb1, hq1, hpt1⟩ := hcut
    have Q1 := Lib.hid hq1
    have PT1 := Lib.hid hpt1
    clear hq1 hpt1
    obtain ⟨w1, rfl⟩ : ∃ x, x = wc := ⟨_, rfl⟩
    have hC1 := below_step hC0 hb1
    have c1 := cell_block (block_later hb1 P1.out)
    have c3 := cell_block (block_later hb1 P3.out)
    have c5 := cell_block (block_later hb1 P5.out)
    go_wp2_with fail
    (with_reducible refine (hd_featB (MK.out.later hb1) (secs_later S4.out hb1)).mono ?_)
    rintro z w2 ⟨a2, n2, c2, b2, m2, d2, rfl, hsep, hb2⟩
    clear c1 c3 c5
    have hC2 := below_step hC1 hb2
    go_wp2_with fail
    refine wp_named fun w3 hw3 => ?_
    obtain ⟨q3, hb3⟩ := box1 hw3
    clear hw3
    have hC3 := below_step hC2 hb3
    have PT3 := Lib.hid (hsep _ (KeepPS.of_below hb3))
    have Q3 : Hid (w3.heap[w2.heap.size]? = some (.cells #[.int .i64 (hdM).id, .int .i64 (hdM).kind, .int .i64 (hdM).x, .int .i64 (hdM).y, .int .i64 (hdM).rad, .slice a2 n2 c2, .int .i64 (hdM).dep, .int .i64 (hdM).sym, .slice b2 m2 d2] 32 (0, 0))) := Lib.hid q3
    clear hsep q3
    go_cut [10, 11] from 53 to 60 (fun s6 s7 wx => ∃ (g : Nat), s6 = .pointer (some ⟨g, 0, none⟩) ∧ s7 = .int .i64 11 ∧ Below w3.heap.size w3 wx)
    case first =>
      have q1 := block_later (below_step (below_step hb1 hb2) hb3) P1.out
      have q2 := block_later (below_step (below_step hb1 hb2) hb3) P2.out
      have F1 : ∀ w', Below w3.heap.size w3 w' → ∀ i, w'.cell? ⟨w.heap.size + 1, i, none⟩ = #[.int .i64 1, .slice (some ⟨w.heap.size, 0, none⟩) 2 2][i]? := fun w' hw i => cell_block (block_later hw q1) i
      have F2 : ∀ w', Below w3.heap.size w3 w' → ∀ i, w'.cell? ⟨w.heap.size + 2, i, none⟩ = #[.int .i64 1000000, .int .i64 0, .int .i64 10, .int .i64 0, .int .i64 1000000, .int .i64 0, .int .i64 3][i]? := fun w' hw i => cell_block (block_later hw q2) i
      have M0 := Lib.hid (MK.out.later (below_step (below_step hb1 hb2) hb3))
      clear q1 q2
      refine wp_region_planS (Below w3.heap.size w3) (.take 0 (.take 0 (.take 0 (.two 0 (.two 0 (.take 0 (.take 0 (.take 0 (.only 0 (.only 0 (.take 0 .done)))))) 4 (.only 0 (.take 0 (.take 0 (.take 0 (.only 0 (.take 0 .done))))))) 5 (.only 0 (.only 0 (.take 0 (.take 0 (.take 0 (.only 0 (.take 0 .done))))))))))) (by kernel_rfl) (by kernel_rfl) (Below.refl _ _).drew (fun hP => ?_)
      generalize w3.drew = wD at hP ⊢
      (refine wsPlan_take rfl (fun K hK => ?_); replace hK := Lib.hid hK; go_simp; first | (refine hK.out _ ?_; clear hK K) | (apply Exists.intro; refine ⟨fun w' hw => ?_, hK.out _ ?_⟩; (first | with_reducible exact rfl | (have f1 := F1 w' hw; have f2 := F2 w' hw; go_simp; exact rfl)); clear hK K))
      (refine wsPlan_take rfl (fun K hK => ?_); replace hK := Lib.hid hK; go_simp; first | (refine hK.out _ ?_; clear hK K) | (apply Exists.intro; refine ⟨fun w' hw => ?_, hK.out _ ?_⟩; (first | with_reducible exact rfl | (have f1 := F1 w' hw; have f2 := F2 w' hw; go_simp; exact rfl)); clear hK K))
      (refine wsPlan_take rfl (fun K hK => ?_); replace hK := Lib.hid hK; go_simp; first | (refine hK.out _ ?_; clear hK K) | (apply Exists.intro; refine ⟨fun w' hw => ?_, hK.out _ ?_⟩; (first | with_reducible exact rfl | (have f1 := F1 w' hw; have f2 := F2 w' hw; go_simp; exact rfl)); clear hK K))
      refine wsPlan_two ?_ ?_
      · skip
        (refine wsPlan_only rfl (fun K hK => ?_); replace hK := Lib.hid hK; go_simp; go_at_call 134; (with_reducible refine (l20wreck_any _ _ _ _).mono ?_); rintro z wr ⟨rfl, hbr⟩; have hPr := below_step hP hbr; refine hK.out _ _ (hPr) (fun hP => ?_); clear hK K)
        refine wsPlan_two ?_ ?_
        · skip
          (refine wsPlan_only rfl (fun K hK => ?_); replace hK := Lib.hid hK; go_simp; go_at_call 51; (with_reducible refine (hd_featA hd3 (M0.out.later hP) (PartsAt.zero _)).mono ?_); rintro z wf ⟨a2, n2, c2, b2, m2, d2, rfl, hsep, hbf⟩; have hPf := below_step hP hbf; refine hK.out _ _ (hPf) (fun hP => ?_); clear hK K)
          (refine wsPlan_take rfl (fun K hK => ?_); replace hK := Lib.hid hK; go_simp; first | (refine hK.out _ ?_; clear hK K) | (apply Exists.intro; refine ⟨fun w' hw => ?_, hK.out _ ?_⟩; (first | with_reducible exact rfl | (have f1 := F1 w' hw; have f2 := F2 w' hw; go_simp; exact rfl)); clear hK K))
          (refine wsPlan_take rfl (fun K hK => ?_); replace hK := Lib.hid hK; go_simp; first | (refine hK.out _ ?_; clear hK K) | (apply Exists.intro; refine ⟨fun w' hw => ?_, hK.out _ ?_⟩; (first | with_reducible exact rfl | (have f1 := F1 w' hw; have f2 := F2 w' hw; go_simp; exact rfl)); clear hK K))
          (refine wsPlan_take rfl (fun K hK => ?_); replace hK := Lib.hid hK; go_simp; first | (refine hK.out _ ?_; clear hK K) | (apply Exists.intro; refine ⟨fun w' hw => ?_, hK.out _ ?_⟩; (first | with_reducible exact rfl | (have f1 := F1 w' hw; have f2 := F2 w' hw; go_simp; exact rfl)); clear hK K))
          have r9 := block_new wf (.cells #[.int .i64 0, .int .i64 0, .int .i64 0, .int .i64 0, .int .i64 0, .slice none 0 0, .int .i64 0, .int .i64 0, .slice none 0 0] 32)
          have f9 := free_block r9
          have c9 := cell_block r9
          (refine wsPlan_only rfl (fun K hK => ?_); replace hK := Lib.hid hK; go_simp; skip; refine hK.out _ _ (hP.alloc hP.size _) (fun hP => ?_); clear hK K)
          (refine wsPlan_only rfl (fun K hK => ?_); replace hK := Lib.hid hK; go_simp; skip; refine hK.out _ _ (by with_reducible exact hPf.alloc hPf.size _) (fun hP => ?_); clear hK K)
          (refine wsPlan_take rfl (fun K hK => ?_); replace hK := Lib.hid hK; go_simp; first | (refine hK.out _ ?_; clear hK K) | (apply Exists.intro; refine ⟨fun w' hw => ?_, hK.out _ ?_⟩; (first | with_reducible exact rfl | (have f1 := F1 w' hw; have f2 := F2 w' hw; go_simp; exact rfl)); clear hK K))
          have hal := (Below.refl wf.heap.size wf).alloc (Nat.le_refl _) (.cells #[.int .i64 (noFeat).id, .int .i64 (noFeat).kind, .int .i64 (noFeat).x, .int .i64 (noFeat).y, .int .i64 (noFeat).rad, .slice a2 n2 c2, .int .i64 (noFeat).dep, .int .i64 (noFeat).sym, .slice b2 m2 d2] 32)
          have PT := Lib.hid (hsep _ (KeepPS.of_below hal))
          have r8 := block_new wf (.cells #[.int .i64 (noFeat).id, .int .i64 (noFeat).kind, .int .i64 (noFeat).x, .int .i64 (noFeat).y, .int .i64 (noFeat).rad, .slice a2 n2 c2, .int .i64 (noFeat).dep, .int .i64 (noFeat).sym, .slice b2 m2 d2] 32)
          refine wsPlan_done ?_
          have HBL := Lib.hid r8
          have HPP := Lib.hid hP
          clear F1 F2 f9 c9
          go_wp2_with fail
          go_meet
          exact ⟨_, rfl, rfl, HPP.out⟩
        · skip
          have r8 := block_new (wr) (.cells #[.int .i64 0, .int .i64 0, .int .i64 0, .int .i64 0, .int .i64 0, .slice none 0 0, .int .i64 0, .int .i64 0, .slice none 0 0] 32)
          have hSZ : w3.heap.size ≤ (wr).heap.size := hP.size
          (refine wsPlan_only rfl (fun K hK => ?_); replace hK := Lib.hid hK; go_simp; skip; refine hK.out _ _ (hP.alloc hP.size _) (fun hP => ?_); clear hK K)
          (refine wsPlan_only rfl (fun K hK => ?_); replace hK := Lib.hid hK; go_simp; go_at_call 51; (with_reducible refine (hd_featA hd3 (M0.out.later hP) (PartsAt.zero _)).mono ?_); rintro z wf ⟨a2, n2, c2, b2, m2, d2, rfl, hsep, hbf⟩; have hPf := below_step hP hbf; refine hK.out _ _ (hPf) (fun hP => ?_); clear hK K)
          have r9 := block_later hbf r8
          have f9 := free_block r9
          have c9 := cell_block r9
          (refine wsPlan_take rfl (fun K hK => ?_); replace hK := Lib.hid hK; go_simp; first | (refine hK.out _ ?_; clear hK K) | (apply Exists.intro; refine ⟨fun w' hw => ?_, hK.out _ ?_⟩; (first | with_reducible exact rfl | (have f1 := F1 w' hw; have f2 := F2 w' hw; go_simp; exact rfl)); clear hK K))
          (refine wsPlan_take rfl (fun K hK => ?_); replace hK := Lib.hid hK; go_simp; first | (refine hK.out _ ?_; clear hK K) | (apply Exists.intro; refine ⟨fun w' hw => ?_, hK.out _ ?_⟩; (first | with_reducible exact rfl | (have f1 := F1 w' hw; have f2 := F2 w' hw; go_simp; exact rfl)); clear hK K))
          (refine wsPlan_take rfl (fun K hK => ?_); replace hK := Lib.hid hK; go_simp; first | (refine hK.out _ ?_; clear hK K) | (apply Exists.intro; refine ⟨fun w' hw => ?_, hK.out _ ?_⟩; (first | with_reducible exact rfl | (have f1 := F1 w' hw; have f2 := F2 w' hw; go_simp; exact rfl)); clear hK K))
          (refine wsPlan_only rfl (fun K hK => ?_); replace hK := Lib.hid hK; go_simp; skip; refine hK.out _ _ (by with_reducible exact (setN (setN (setN (setN (setN (setN (setN (setN (setN hP hSZ _) hSZ _) hSZ _) hSZ _) hSZ _) hSZ _) hSZ _) hSZ _) hSZ _)) (fun hP => ?_); clear hK K)
          (refine wsPlan_take rfl (fun K hK => ?_); replace hK := Lib.hid hK; go_simp; first | (refine hK.out _ ?_; clear hK K) | (apply Exists.intro; refine ⟨fun w' hw => ?_, hK.out _ ?_⟩; (first | with_reducible exact rfl | (have f1 := F1 w' hw; have f2 := F2 w' hw; go_simp; exact rfl)); clear hK K))
          refine wsPlan_done ?_
          have HBL := Lib.hid (block_set (i := 8) (block_set (i := 7) (block_set (i := 6) (block_set (i := 5) (block_set (i := 4) (block_set (i := 3) (block_set (i := 2) (block_set (i := 1) (block_set (i := 0) r9 (.int .i64 (noFeat).id)) (.int .i64 (noFeat).kind)) (.int .i64 (noFeat).x)) (.int .i64 (noFeat).y)) (.int .i64 (noFeat).rad)) (.slice a2 n2 c2)) (.int .i64 (noFeat).dep)) (.int .i64 (noFeat).sym)) (.slice b2 m2 d2))
          have HPP := Lib.hid hP
          clear F1 F2 f9 c9
          go_wp2_with fail
          go_meet
          exact ⟨_, rfl, rfl, HPP.out⟩
      · skip
        have r8 := block_new (wD) (.cells #[.int .i64 0, .int .i64 0, .int .i64 0, .int .i64 0, .int .i64 0, .slice none 0 0, .int .i64 0, .int .i64 0, .slice none 0 0] 32)
        have hSZ : w3.heap.size ≤ (wD).heap.size := hP.size
        (refine wsPlan_only rfl (fun K hK => ?_); replace hK := Lib.hid hK; go_simp; skip; refine hK.out _ _ (hP.alloc hP.size _) (fun hP => ?_); clear hK K)
        (refine wsPlan_only rfl (fun K hK => ?_); replace hK := Lib.hid hK; go_simp; go_at_call 134; (with_reducible refine (l20wreck_any _ _ _ _).mono ?_); rintro z wr ⟨rfl, hbr⟩; have hPr := below_step hP hbr; refine hK.out _ _ (hPr) (fun hP => ?_); clear hK K)
        have r8 := block_later hbr r8
        (refine wsPlan_only rfl (fun K hK => ?_); replace hK := Lib.hid hK; go_simp; go_at_call 51; (with_reducible refine (hd_featA hd3 (M0.out.later hP) (PartsAt.zero _)).mono ?_); rintro z wf ⟨a2, n2, c2, b2, m2, d2, rfl, hsep, hbf⟩; have hPf := below_step hP hbf; refine hK.out _ _ (hPf) (fun hP => ?_); clear hK K)
        have r9 := block_later hbf r8
        have f9 := free_block r9
        have c9 := cell_block r9
        (refine wsPlan_take rfl (fun K hK => ?_); replace hK := Lib.hid hK; go_simp; first | (refine hK.out _ ?_; clear hK K) | (apply Exists.intro; refine ⟨fun w' hw => ?_, hK.out _ ?_⟩; (first | with_reducible exact rfl | (have f1 := F1 w' hw; have f2 := F2 w' hw; go_simp; exact rfl)); clear hK K))
        (refine wsPlan_take rfl (fun K hK => ?_); replace hK := Lib.hid hK; go_simp; first | (refine hK.out _ ?_; clear hK K) | (apply Exists.intro; refine ⟨fun w' hw => ?_, hK.out _ ?_⟩; (first | with_reducible exact rfl | (have f1 := F1 w' hw; have f2 := F2 w' hw; go_simp; exact rfl)); clear hK K))
        (refine wsPlan_take rfl (fun K hK => ?_); replace hK := Lib.hid hK; go_simp; first | (refine hK.out _ ?_; clear hK K) | (apply Exists.intro; refine ⟨fun w' hw => ?_, hK.out _ ?_⟩; (first | with_reducible exact rfl | (have f1 := F1 w' hw; have f2 := F2 w' hw; go_simp; exact rfl)); clear hK K))
        (refine wsPlan_only rfl (fun K hK => ?_); replace hK := Lib.hid hK; go_simp; skip; refine hK.out _ _ (by with_reducible exact (setN (setN (setN (setN (setN (setN (setN (setN (setN hP hSZ _) hSZ _) hSZ _) hSZ _) hSZ _) hSZ _) hSZ _) hSZ _) hSZ _)) (fun hP => ?_); clear hK K)
        (refine wsPlan_take rfl (fun K hK => ?_); replace hK := Lib.hid hK; go_simp; first | (refine hK.out _ ?_; clear hK K) | (apply Exists.intro; refine ⟨fun w' hw => ?_, hK.out _ ?_⟩; (first | with_reducible exact rfl | (have f1 := F1 w' hw; have f2 := F2 w' hw; go_simp; exact rfl)); clear hK K))
        refine wsPlan_done ?_
        have HBL := Lib.hid (block_set (i := 8) (block_set (i := 7) (block_set (i := 6) (block_set (i := 5) (block_set (i := 4) (block_set (i := 3) (block_set (i := 2) (block_set (i := 1) (block_set (i := 0) r9 (.int .i64 (noFeat).id)) (.int .i64 (noFeat).kind)) (.int .i64 (noFeat).x)) (.int .i64 (noFeat).y)) (.int .i64 (noFeat).rad)) (.slice a2 n2 c2)) (.int .i64 (noFeat).dep)) (.int .i64 (noFeat).sym)) (.slice b2 m2 d2))
        have HPP := Lib.hid hP
        clear F1 F2 f9 c9
        go_wp2_with fail
        go_meet
        exact ⟨_, rfl, rfl, HPP.out⟩
    case rest =>
      obtain ⟨g4, rfl, rfl, hb4⟩ := hcut
      obtain ⟨w4, rfl⟩ : ∃ x, x = wc := ⟨_, rfl⟩
      have hC4 := below_step hC3 hb4
      go_wp2_with fail
      go_cut [12, 13] from 61 to 68 (fun s6 s7 wx => ∃ (g : Nat), s6 = .pointer (some ⟨g, 0, none⟩) ∧ s7 = .int .i64 12 ∧ Below w4.heap.size w4 wx)
      case first =>
        have q1 := block_later (below_step (below_step (below_step hb1 hb2) hb3) hb4) P1.out
        have q2 := block_later (below_step (below_step (below_step hb1 hb2) hb3) hb4) P2.out
        have F1 : ∀ w', Below w4.heap.size w4 w' → ∀ i, w'.cell? ⟨w.heap.size + 1, i, none⟩ = #[.int .i64 1, .slice (some ⟨w.heap.size, 0, none⟩) 2 2][i]? := fun w' hw i => cell_block (block_later hw q1) i
        have F2 : ∀ w', Below w4.heap.size w4 w' → ∀ i, w'.cell? ⟨w.heap.size + 2, i, none⟩ = #[.int .i64 1000000, .int .i64 0, .int .i64 10, .int .i64 0, .int .i64 1000000, .int .i64 0, .int .i64 3][i]? := fun w' hw i => cell_block (block_later hw q2) i
        have M0 := Lib.hid (MK.out.later (below_step (below_step (below_step hb1 hb2) hb3) hb4))
        clear q1 q2
        refine wp_region_planS (Below w4.heap.size w4) (.take 0 (.take 0 (.take 0 (.two 0 (.two 0 (.take 0 (.take 0 (.take 0 (.only 0 (.only 0 (.take 0 .done)))))) 4 (.only 0 (.take 0 (.take 0 (.take 0 (.only 0 (.take 0 .done))))))) 5 (.only 0 (.only 0 (.take 0 (.take 0 (.take 0 (.only 0 (.take 0 .done))))))))))) (by kernel_rfl) (by kernel_rfl) (Below.refl _ _).drew (fun hP => ?_)
        generalize w4.drew = wD at hP ⊢
        (refine wsPlan_take rfl (fun K hK => ?_); replace hK := Lib.hid hK; go_simp; first | (refine hK.out _ ?_; clear hK K) | (apply Exists.intro; refine ⟨fun w' hw => ?_, hK.out _ ?_⟩; (first | with_reducible exact rfl | (have f1 := F1 w' hw; have f2 := F2 w' hw; go_simp; exact rfl)); clear hK K))
        (refine wsPlan_take rfl (fun K hK => ?_); replace hK := Lib.hid hK; go_simp; first | (refine hK.out _ ?_; clear hK K) | (apply Exists.intro; refine ⟨fun w' hw => ?_, hK.out _ ?_⟩; (first | with_reducible exact rfl | (have f1 := F1 w' hw; have f2 := F2 w' hw; go_simp; exact rfl)); clear hK K))
        (refine wsPlan_take rfl (fun K hK => ?_); replace hK := Lib.hid hK; go_simp; first | (refine hK.out _ ?_; clear hK K) | (apply Exists.intro; refine ⟨fun w' hw => ?_, hK.out _ ?_⟩; (first | with_reducible exact rfl | (have f1 := F1 w' hw; have f2 := F2 w' hw; go_simp; exact rfl)); clear hK K))
        refine wsPlan_two ?_ ?_
        · skip
          (refine wsPlan_only rfl (fun K hK => ?_); replace hK := Lib.hid hK; go_simp; go_at_call 134; (with_reducible refine (l20wreck_any _ _ _ _).mono ?_); rintro z wr ⟨rfl, hbr⟩; have hPr := below_step hP hbr; refine hK.out _ _ (hPr) (fun hP => ?_); clear hK K)
          refine wsPlan_two ?_ ?_
          · skip
            (refine wsPlan_only rfl (fun K hK => ?_); replace hK := Lib.hid hK; go_simp; go_at_call 51; (with_reducible refine (hd_featA hd4 (M0.out.later hP) (PartsAt.zero _)).mono ?_); rintro z wf ⟨a2, n2, c2, b2, m2, d2, rfl, hsep, hbf⟩; have hPf := below_step hP hbf; refine hK.out _ _ (hPf) (fun hP => ?_); clear hK K)
            (refine wsPlan_take rfl (fun K hK => ?_); replace hK := Lib.hid hK; go_simp; first | (refine hK.out _ ?_; clear hK K) | (apply Exists.intro; refine ⟨fun w' hw => ?_, hK.out _ ?_⟩; (first | with_reducible exact rfl | (have f1 := F1 w' hw; have f2 := F2 w' hw; go_simp; exact rfl)); clear hK K))
            (refine wsPlan_take rfl (fun K hK => ?_); replace hK := Lib.hid hK; go_simp; first | (refine hK.out _ ?_; clear hK K) | (apply Exists.intro; refine ⟨fun w' hw => ?_, hK.out _ ?_⟩; (first | with_reducible exact rfl | (have f1 := F1 w' hw; have f2 := F2 w' hw; go_simp; exact rfl)); clear hK K))
            (refine wsPlan_take rfl (fun K hK => ?_); replace hK := Lib.hid hK; go_simp; first | (refine hK.out _ ?_; clear hK K) | (apply Exists.intro; refine ⟨fun w' hw => ?_, hK.out _ ?_⟩; (first | with_reducible exact rfl | (have f1 := F1 w' hw; have f2 := F2 w' hw; go_simp; exact rfl)); clear hK K))
            have r9 := block_new wf (.cells #[.int .i64 0, .int .i64 0, .int .i64 0, .int .i64 0, .int .i64 0, .slice none 0 0, .int .i64 0, .int .i64 0, .slice none 0 0] 32)
            have f9 := free_block r9
            have c9 := cell_block r9
            (refine wsPlan_only rfl (fun K hK => ?_); replace hK := Lib.hid hK; go_simp; skip; refine hK.out _ _ (hP.alloc hP.size _) (fun hP => ?_); clear hK K)
            (refine wsPlan_only rfl (fun K hK => ?_); replace hK := Lib.hid hK; go_simp; skip; refine hK.out _ _ (by with_reducible exact hPf.alloc hPf.size _) (fun hP => ?_); clear hK K)
            (refine wsPlan_take rfl (fun K hK => ?_); replace hK := Lib.hid hK; go_simp; first | (refine hK.out _ ?_; clear hK K) | (apply Exists.intro; refine ⟨fun w' hw => ?_, hK.out _ ?_⟩; (first | with_reducible exact rfl | (have f1 := F1 w' hw; have f2 := F2 w' hw; go_simp; exact rfl)); clear hK K))
            have hal := (Below.refl wf.heap.size wf).alloc (Nat.le_refl _) (.cells #[.int .i64 (noFeat).id, .int .i64 (noFeat).kind, .int .i64 (noFeat).x, .int .i64 (noFeat).y, .int .i64 (noFeat).rad, .slice a2 n2 c2, .int .i64 (noFeat).dep, .int .i64 (noFeat).sym, .slice b2 m2 d2] 32)
            have PT := Lib.hid (hsep _ (KeepPS.of_below hal))
            have r8 := block_new wf (.cells #[.int .i64 (noFeat).id, .int .i64 (noFeat).kind, .int .i64 (noFeat).x, .int .i64 (noFeat).y, .int .i64 (noFeat).rad, .slice a2 n2 c2, .int .i64 (noFeat).dep, .int .i64 (noFeat).sym, .slice b2 m2 d2] 32)
            refine wsPlan_done ?_
            have HBL := Lib.hid r8
            have HPP := Lib.hid hP
            clear F1 F2 f9 c9
            go_wp2_with fail
            go_meet
            exact ⟨_, rfl, rfl, HPP.out⟩
          · skip
            have r8 := block_new (wr) (.cells #[.int .i64 0, .int .i64 0, .int .i64 0, .int .i64 0, .int .i64 0, .slice none 0 0, .int .i64 0, .int .i64 0, .slice none 0 0] 32)
            have hSZ : w4.heap.size ≤ (wr).heap.size := hP.size
            (refine wsPlan_only rfl (fun K hK => ?_); replace hK := Lib.hid hK; go_simp; skip; refine hK.out _ _ (hP.alloc hP.size _) (fun hP => ?_); clear hK K)
            (refine wsPlan_only rfl (fun K hK => ?_); replace hK := Lib.hid hK; go_simp; go_at_call 51; (with_reducible refine (hd_featA hd4 (M0.out.later hP) (PartsAt.zero _)).mono ?_); rintro z wf ⟨a2, n2, c2, b2, m2, d2, rfl, hsep, hbf⟩; have hPf := below_step hP hbf; refine hK.out _ _ (hPf) (fun hP => ?_); clear hK K)
            have r9 := block_later hbf r8
            have f9 := free_block r9
            have c9 := cell_block r9
            (refine wsPlan_take rfl (fun K hK => ?_); replace hK := Lib.hid hK; go_simp; first | (refine hK.out _ ?_; clear hK K) | (apply Exists.intro; refine ⟨fun w' hw => ?_, hK.out _ ?_⟩; (first | with_reducible exact rfl | (have f1 := F1 w' hw; have f2 := F2 w' hw; go_simp; exact rfl)); clear hK K))
            (refine wsPlan_take rfl (fun K hK => ?_); replace hK := Lib.hid hK; go_simp; first | (refine hK.out _ ?_; clear hK K) | (apply Exists.intro; refine ⟨fun w' hw => ?_, hK.out _ ?_⟩; (first | with_reducible exact rfl | (have f1 := F1 w' hw; have f2 := F2 w' hw; go_simp; exact rfl)); clear hK K))
            (refine wsPlan_take rfl (fun K hK => ?_); replace hK := Lib.hid hK; go_simp; first | (refine hK.out _ ?_; clear hK K) | (apply Exists.intro; refine ⟨fun w' hw => ?_, hK.out _ ?_⟩; (first | with_reducible exact rfl | (have f1 := F1 w' hw; have f2 := F2 w' hw; go_simp; exact rfl)); clear hK K))
            (refine wsPlan_only rfl (fun K hK => ?_); replace hK := Lib.hid hK; go_simp; skip; refine hK.out _ _ (by with_reducible exact (setN (setN (setN (setN (setN (setN (setN (setN (setN hP hSZ _) hSZ _) hSZ _) hSZ _) hSZ _) hSZ _) hSZ _) hSZ _) hSZ _)) (fun hP => ?_); clear hK K)
            (refine wsPlan_take rfl (fun K hK => ?_); replace hK := Lib.hid hK; go_simp; first | (refine hK.out _ ?_; clear hK K) | (apply Exists.intro; refine ⟨fun w' hw => ?_, hK.out _ ?_⟩; (first | with_reducible exact rfl | (have f1 := F1 w' hw; have f2 := F2 w' hw; go_simp; exact rfl)); clear hK K))
            refine wsPlan_done ?_
            have HBL := Lib.hid (block_set (i := 8) (block_set (i := 7) (block_set (i := 6) (block_set (i := 5) (block_set (i := 4) (block_set (i := 3) (block_set (i := 2) (block_set (i := 1) (block_set (i := 0) r9 (.int .i64 (noFeat).id)) (.int .i64 (noFeat).kind)) (.int .i64 (noFeat).x)) (.int .i64 (noFeat).y)) (.int .i64 (noFeat).rad)) (.slice a2 n2 c2)) (.int .i64 (noFeat).dep)) (.int .i64 (noFeat).sym)) (.slice b2 m2 d2))
            have HPP := Lib.hid hP
            clear F1 F2 f9 c9
            go_wp2_with fail
            go_meet
            exact ⟨_, rfl, rfl, HPP.out⟩
        · skip
          have r8 := block_new (wD) (.cells #[.int .i64 0, .int .i64 0, .int .i64 0, .int .i64 0, .int .i64 0, .slice none 0 0, .int .i64 0, .int .i64 0, .slice none 0 0] 32)
          have hSZ : w4.heap.size ≤ (wD).heap.size := hP.size
          (refine wsPlan_only rfl (fun K hK => ?_); replace hK := Lib.hid hK; go_simp; skip; refine hK.out _ _ (hP.alloc hP.size _) (fun hP => ?_); clear hK K)
          (refine wsPlan_only rfl (fun K hK => ?_); replace hK := Lib.hid hK; go_simp; go_at_call 134; (with_reducible refine (l20wreck_any _ _ _ _).mono ?_); rintro z wr ⟨rfl, hbr⟩; have hPr := below_step hP hbr; refine hK.out _ _ (hPr) (fun hP => ?_); clear hK K)
          have r8 := block_later hbr r8
          (refine wsPlan_only rfl (fun K hK => ?_); replace hK := Lib.hid hK; go_simp; go_at_call 51; (with_reducible refine (hd_featA hd4 (M0.out.later hP) (PartsAt.zero _)).mono ?_); rintro z wf ⟨a2, n2, c2, b2, m2, d2, rfl, hsep, hbf⟩; have hPf := below_step hP hbf; refine hK.out _ _ (hPf) (fun hP => ?_); clear hK K)
          have r9 := block_later hbf r8
          have f9 := free_block r9
          have c9 := cell_block r9
          (refine wsPlan_take rfl (fun K hK => ?_); replace hK := Lib.hid hK; go_simp; first | (refine hK.out _ ?_; clear hK K) | (apply Exists.intro; refine ⟨fun w' hw => ?_, hK.out _ ?_⟩; (first | with_reducible exact rfl | (have f1 := F1 w' hw; have f2 := F2 w' hw; go_simp; exact rfl)); clear hK K))
          (refine wsPlan_take rfl (fun K hK => ?_); replace hK := Lib.hid hK; go_simp; first | (refine hK.out _ ?_; clear hK K) | (apply Exists.intro; refine ⟨fun w' hw => ?_, hK.out _ ?_⟩; (first | with_reducible exact rfl | (have f1 := F1 w' hw; have f2 := F2 w' hw; go_simp; exact rfl)); clear hK K))
          (refine wsPlan_take rfl (fun K hK => ?_); replace hK := Lib.hid hK; go_simp; first | (refine hK.out _ ?_; clear hK K) | (apply Exists.intro; refine ⟨fun w' hw => ?_, hK.out _ ?_⟩; (first | with_reducible exact rfl | (have f1 := F1 w' hw; have f2 := F2 w' hw; go_simp; exact rfl)); clear hK K))
          (refine wsPlan_only rfl (fun K hK => ?_); replace hK := Lib.hid hK; go_simp; skip; refine hK.out _ _ (by with_reducible exact (setN (setN (setN (setN (setN (setN (setN (setN (setN hP hSZ _) hSZ _) hSZ _) hSZ _) hSZ _) hSZ _) hSZ _) hSZ _) hSZ _)) (fun hP => ?_); clear hK K)
          (refine wsPlan_take rfl (fun K hK => ?_); replace hK := Lib.hid hK; go_simp; first | (refine hK.out _ ?_; clear hK K) | (apply Exists.intro; refine ⟨fun w' hw => ?_, hK.out _ ?_⟩; (first | with_reducible exact rfl | (have f1 := F1 w' hw; have f2 := F2 w' hw; go_simp; exact rfl)); clear hK K))
          refine wsPlan_done ?_
          have HBL := Lib.hid (block_set (i := 8) (block_set (i := 7) (block_set (i := 6) (block_set (i := 5) (block_set (i := 4) (block_set (i := 3) (block_set (i := 2) (block_set (i := 1) (block_set (i := 0) r9 (.int .i64 (noFeat).id)) (.int .i64 (noFeat).kind)) (.int .i64 (noFeat).x)) (.int .i64 (noFeat).y)) (.int .i64 (noFeat).rad)) (.slice a2 n2 c2)) (.int .i64 (noFeat).dep)) (.int .i64 (noFeat).sym)) (.slice b2 m2 d2))
          have HPP := Lib.hid hP
          clear F1 F2 f9 c9
          go_wp2_with fail
          go_meet
          exact ⟨_, rfl, rfl, HPP.out⟩
      case rest =>
        obtain ⟨g5, rfl, rfl, hb5⟩ := hcut
        obtain ⟨w5, rfl⟩ : ∃ x, x = wc := ⟨_, rfl⟩
        have hC5 := below_step hC4 hb5
        go_wp2_with fail
        have q2 := block_later (below_step (below_step (below_step (below_step hb1 hb2) hb3) hb4) hb5) P2.out
        have F2 : ∀ w', Below w5.heap.size w5 w' → ∀ i, w'.cell? ⟨w.heap.size + 2, i, none⟩ = #[.int .i64 1000000, .int .i64 0, .int .i64 10, .int .i64 0, .int .i64 1000000, .int .i64 0, .int .i64 3][i]? := fun w' hw i => cell_block (block_later hw q2) i
        clear q2
        refine wp_region_planS (Below w5.heap.size w5) (.take 0 (.only 0 (.only 0 (.only 0 (.take 0 (.take 0 (.take 0 (.take 0 (.take 0 .done))))))))) (by kernel_rfl) (by kernel_rfl) (Below.refl _ _).drew (fun hP => ?_)
        (refine wsPlan_take rfl (fun K hK => ?_); replace hK := Lib.hid hK; go_simp; first | (refine hK.out _ ?_; clear hK K) | (apply Exists.intro; refine ⟨fun w' hw => ?_, hK.out _ ?_⟩; (first | with_reducible exact rfl | (have f2 := F2 w' hw; go_simp; exact rfl)); clear hK K))
        (refine wsPlan_only rfl (fun K hK => ?_); replace hK := Lib.hid hK; go_simp; go_at_call 134; (with_reducible refine (l20wreck_any _ _ _ _).mono ?_); rintro z wr ⟨rfl, hbr⟩; have hPr := below_step hP hbr; refine hK.out _ _ (hPr) (fun hP => ?_); clear hK K)
        (refine wsPlan_only rfl (fun K hK => ?_); replace hK := Lib.hid hK; go_simp; go_at_call 134; (with_reducible refine (l20wreck_any _ _ _ _).mono ?_); rintro z wr ⟨rfl, hbr⟩; have hPr := below_step hP hbr; refine hK.out _ _ (hPr) (fun hP => ?_); clear hK K)
        (refine wsPlan_only rfl (fun K hK => ?_); replace hK := Lib.hid hK; go_simp; go_at_call 57; (with_reducible refine (hd_stand wk2 hd5).mono ?_); rintro z wr ⟨rfl, hbr⟩; have hPr := below_step hP hbr; refine hK.out _ _ (hPr) (fun hP => ?_); clear hK K)
        (refine wsPlan_take rfl (fun K hK => ?_); replace hK := Lib.hid hK; go_simp; first | (refine hK.out _ ?_; clear hK K) | (apply Exists.intro; refine ⟨fun w' hw => ?_, hK.out _ ?_⟩; (first | with_reducible exact rfl | (have f2 := F2 w' hw; go_simp; exact rfl)); clear hK K))
        (refine wsPlan_take rfl (fun K hK => ?_); replace hK := Lib.hid hK; go_simp; first | (refine hK.out _ ?_; clear hK K) | (apply Exists.intro; refine ⟨fun w' hw => ?_, hK.out _ ?_⟩; (first | with_reducible exact rfl | (have f2 := F2 w' hw; go_simp; exact rfl)); clear hK K))
        (refine wsPlan_take rfl (fun K hK => ?_); replace hK := Lib.hid hK; go_simp; first | (refine hK.out _ ?_; clear hK K) | (apply Exists.intro; refine ⟨fun w' hw => ?_, hK.out _ ?_⟩; (first | with_reducible exact rfl | (have f2 := F2 w' hw; go_simp; exact rfl)); clear hK K))
        (refine wsPlan_take rfl (fun K hK => ?_); replace hK := Lib.hid hK; go_simp; first | (refine hK.out _ ?_; clear hK K) | (apply Exists.intro; refine ⟨fun w' hw => ?_, hK.out _ ?_⟩; (first | with_reducible exact rfl | (have f2 := F2 w' hw; go_simp; exact rfl)); clear hK K))
        (refine wsPlan_take rfl (fun K hK => ?_); replace hK := Lib.hid hK; go_simp; first | (refine hK.out _ ?_; clear hK K) | (apply Exists.intro; refine ⟨fun w' hw => ?_, hK.out _ ?_⟩; (first | with_reducible exact rfl | (have f2 := F2 w' hw; go_simp; exact rfl)); clear hK K))
        refine wsPlan_done ?_
        clear F2
        obtain ⟨w6, rfl⟩ : ∃ x, x = wr := ⟨_, rfl⟩
        have hb6 := hP
        have hC6 := below_step hC5 hb6
        clear hP hPr hbr
        go_wp2_with fail
        have q2 := block_later (below_step (below_step (below_step (below_step (below_step hb1 hb2) hb3) hb4) hb5) hb6) P2.out
        have F2 : ∀ w', Below w6.heap.size w6 w' → ∀ i, w'.cell? ⟨w.heap.size + 2, i, none⟩ = #[.int .i64 1000000, .int .i64 0, .int .i64 10, .int .i64 0, .int .i64 1000000, .int .i64 0, .int .i64 3][i]? := fun w' hw i => cell_block (block_later hw q2) i
        clear q2
        refine wp_region_planS (Below w6.heap.size w6) (.take 0 (.only 0 (.only 0 (.only 0 (.take 0 (.take 0 (.take 0 (.take 0 (.take 0 .done))))))))) (by kernel_rfl) (by kernel_rfl) (Below.refl _ _).drew (fun hP => ?_)
        (refine wsPlan_take rfl (fun K hK => ?_); replace hK := Lib.hid hK; go_simp; first | (refine hK.out _ ?_; clear hK K) | (apply Exists.intro; refine ⟨fun w' hw => ?_, hK.out _ ?_⟩; (first | with_reducible exact rfl | (have f2 := F2 w' hw; go_simp; exact rfl)); clear hK K))
        (refine wsPlan_only rfl (fun K hK => ?_); replace hK := Lib.hid hK; go_simp; go_at_call 134; (with_reducible refine (l20wreck_any _ _ _ _).mono ?_); rintro z wr ⟨rfl, hbr⟩; have hPr := below_step hP hbr; refine hK.out _ _ (hPr) (fun hP => ?_); clear hK K)
        (refine wsPlan_only rfl (fun K hK => ?_); replace hK := Lib.hid hK; go_simp; go_at_call 134; (with_reducible refine (l20wreck_any _ _ _ _).mono ?_); rintro z wr ⟨rfl, hbr⟩; have hPr := below_step hP hbr; refine hK.out _ _ (hPr) (fun hP => ?_); clear hK K)
        (refine wsPlan_only rfl (fun K hK => ?_); replace hK := Lib.hid hK; go_simp; go_at_call 57; (with_reducible refine (hd_stand wk5 hd6).mono ?_); rintro z wr ⟨rfl, hbr⟩; have hPr := below_step hP hbr; refine hK.out _ _ (hPr) (fun hP => ?_); clear hK K)
        (refine wsPlan_take rfl (fun K hK => ?_); replace hK := Lib.hid hK; go_simp; first | (refine hK.out _ ?_; clear hK K) | (apply Exists.intro; refine ⟨fun w' hw => ?_, hK.out _ ?_⟩; (first | with_reducible exact rfl | (have f2 := F2 w' hw; go_simp; exact rfl)); clear hK K))
        (refine wsPlan_take rfl (fun K hK => ?_); replace hK := Lib.hid hK; go_simp; first | (refine hK.out _ ?_; clear hK K) | (apply Exists.intro; refine ⟨fun w' hw => ?_, hK.out _ ?_⟩; (first | with_reducible exact rfl | (have f2 := F2 w' hw; go_simp; exact rfl)); clear hK K))
        (refine wsPlan_take rfl (fun K hK => ?_); replace hK := Lib.hid hK; go_simp; first | (refine hK.out _ ?_; clear hK K) | (apply Exists.intro; refine ⟨fun w' hw => ?_, hK.out _ ?_⟩; (first | with_reducible exact rfl | (have f2 := F2 w' hw; go_simp; exact rfl)); clear hK K))
        (refine wsPlan_take rfl (fun K hK => ?_); replace hK := Lib.hid hK; go_simp; first | (refine hK.out _ ?_; clear hK K) | (apply Exists.intro; refine ⟨fun w' hw => ?_, hK.out _ ?_⟩; (first | with_reducible exact rfl | (have f2 := F2 w' hw; go_simp; exact rfl)); clear hK K))
        (refine wsPlan_take rfl (fun K hK => ?_); replace hK := Lib.hid hK; go_simp; first | (refine hK.out _ ?_; clear hK K) | (apply Exists.intro; refine ⟨fun w' hw => ?_, hK.out _ ?_⟩; (first | with_reducible exact rfl | (have f2 := F2 w' hw; go_simp; exact rfl)); clear hK K))
        refine wsPlan_done ?_
        clear F2
        obtain ⟨w7, rfl⟩ : ∃ x, x = wr := ⟨_, rfl⟩
        have hb7 := hP
        have hC7 := below_step hC6 hb7
        clear hP hPr hbr
        go_wp2_with fail
        have q1 := block_later (below_step (below_step (below_step (below_step (below_step hb2 hb3) hb4) hb5) hb6) hb7) Q1.out
        have q3 := block_later (below_step (below_step (below_step hb4 hb5) hb6) hb7) Q3.out
        have q7 := block_later (below_step (below_step (below_step (below_step (below_step (below_step hb1 hb2) hb3) hb4) hb5) hb6) hb7) P7.out
        have F1 : ∀ w', Below w7.heap.size w7 w' → ∀ i, w'.cell? ⟨g1, i, none⟩ = #[.int .i64 (wreckF 11 8 6).id, .int .i64 (wreckF 11 8 6).kind, .int .i64 (wreckF 11 8 6).x, .int .i64 (wreckF 11 8 6).y, .int .i64 (wreckF 11 8 6).rad, .slice a1 n1 c1, .int .i64 (wreckF 11 8 6).dep, .int .i64 (wreckF 11 8 6).sym, .slice b1 m1 d1][i]? := fun w' hw i => cell_block (block_later hw q1) i
        have F3 : ∀ w', Below w7.heap.size w7 w' → ∀ i, w'.cell? ⟨w2.heap.size, i, none⟩ = #[.int .i64 (hdM).id, .int .i64 (hdM).kind, .int .i64 (hdM).x, .int .i64 (hdM).y, .int .i64 (hdM).rad, .slice a2 n2 c2, .int .i64 (hdM).dep, .int .i64 (hdM).sym, .slice b2 m2 d2][i]? := fun w' hw i => cell_block (block_later hw q3) i
        have F7 : ∀ w', Below w7.heap.size w7 w' → ∀ i, w'.cell? ⟨w.heap.size + 7, i, none⟩ = #[.int .i64 2, .int .i64 4, .int .i64 0, .int .i64 5, .int .i64 0, .slice none 0 0, .int .i64 0, .int .i64 7, .slice (some ⟨w.heap.size + 6, 0, none⟩) 1 1][i]? := fun w' hw i => cell_block (block_later hw q7) i
        have PP1 := Lib.hid (PT1.out.later (below_step (below_step (below_step (below_step (below_step hb2 hb3) hb4) hb5) hb6) hb7))
        have PP3 := Lib.hid (PT3.out.later (below_step (below_step (below_step hb4 hb5) hb6) hb7))
        have SS6 := Lib.hid (secs_later S6.out (below_step (below_step (below_step (below_step (below_step (below_step hb1 hb2) hb3) hb4) hb5) hb6) hb7))
        have HE := Lib.hid (HB.out.trans (hC7.mono HB.out.size))
        clear q1 q3 q7
        refine wp_region_planS (Below w7.heap.size w7) (.take 0 (.take 0 (.take 0 (.only 0 (.only 0 (.take 0 (.take 0 (.take 0 (.take 0 (.only 0 (.take 0 (.take 0 (.take 0 (.take 0 (.take 0 (.take 0 (.take 0 (.take 0 (.take 0 .done))))))))))))))))))) (by kernel_rfl) (by kernel_rfl) (Below.refl _ _).drew (fun hP => ?_)
        (refine wsPlan_take rfl (fun K hK => ?_); replace hK := Lib.hid hK; go_simp; first | (refine hK.out _ ?_; clear hK K) | (apply Exists.intro; refine ⟨fun w' hw => ?_, hK.out _ ?_⟩; (first | with_reducible exact rfl | (have f1 := F1 w' hw; have f3 := F3 w' hw; have f7 := F7 w' hw; go_simp; exact rfl)); clear hK K))
        (refine wsPlan_take rfl (fun K hK => ?_); replace hK := Lib.hid hK; go_simp; first | (refine hK.out _ ?_; clear hK K) | (apply Exists.intro; refine ⟨fun w' hw => ?_, hK.out _ ?_⟩; (first | with_reducible exact rfl | (have f1 := F1 w' hw; have f3 := F3 w' hw; have f7 := F7 w' hw; go_simp; exact rfl)); clear hK K))
        (refine wsPlan_take rfl (fun K hK => ?_); replace hK := Lib.hid hK; go_simp; first | (refine hK.out _ ?_; clear hK K) | (apply Exists.intro; refine ⟨fun w' hw => ?_, hK.out _ ?_⟩; (first | with_reducible exact rfl | (have f1 := F1 w' hw; have f3 := F3 w' hw; have f7 := F7 w' hw; go_simp; exact rfl)); clear hK K))
        (refine wsPlan_only rfl (fun K hK => ?_); replace hK := Lib.hid hK; go_simp; go_at_call 134; (with_reducible refine (l20wreck_any _ _ _ _).mono ?_); rintro z wr ⟨rfl, hbr⟩; have hPr := below_step hP hbr; refine hK.out _ _ (hPr) (fun hP => ?_); clear hK K)
        (refine wsPlan_only rfl (fun K hK => ?_); replace hK := Lib.hid hK; go_simp; go_at_call 43; (with_reducible refine (hd_same1 (PP1.out.later hP) (wreck_parts _ 11 8 6)).mono ?_); rintro z wr ⟨rfl, hbr⟩; have hPr := below_step hP hbr; refine hK.out _ _ (hPr) (fun hP => ?_); clear hK K)
        (refine wsPlan_take rfl (fun K hK => ?_); replace hK := Lib.hid hK; go_simp; first | (refine hK.out _ ?_; clear hK K) | (apply Exists.intro; refine ⟨fun w' hw => ?_, hK.out _ ?_⟩; (first | with_reducible exact rfl | (have f1 := F1 w' hw; have f3 := F3 w' hw; have f7 := F7 w' hw; go_simp; exact rfl)); clear hK K))
        (refine wsPlan_take rfl (fun K hK => ?_); replace hK := Lib.hid hK; go_simp; first | (refine hK.out _ ?_; clear hK K) | (apply Exists.intro; refine ⟨fun w' hw => ?_, hK.out _ ?_⟩; (first | with_reducible exact rfl | (have f1 := F1 w' hw; have f3 := F3 w' hw; have f7 := F7 w' hw; go_simp; exact rfl)); clear hK K))
        (refine wsPlan_take rfl (fun K hK => ?_); replace hK := Lib.hid hK; go_simp; first | (refine hK.out _ ?_; clear hK K) | (apply Exists.intro; refine ⟨fun w' hw => ?_, hK.out _ ?_⟩; (first | with_reducible exact rfl | (have f1 := F1 w' hw; have f3 := F3 w' hw; have f7 := F7 w' hw; go_simp; exact rfl)); clear hK K))
        (refine wsPlan_take rfl (fun K hK => ?_); replace hK := Lib.hid hK; go_simp; first | (refine hK.out _ ?_; clear hK K) | (apply Exists.intro; refine ⟨fun w' hw => ?_, hK.out _ ?_⟩; (first | with_reducible exact rfl | (have f1 := F1 w' hw; have f3 := F3 w' hw; have f7 := F7 w' hw; go_simp; exact rfl)); clear hK K))
        (refine wsPlan_only rfl (fun K hK => ?_); replace hK := Lib.hid hK; go_simp; go_at_call 43; (with_reducible refine (hd_same (PP3.out.later hP) (secs_later SS6.out hP)).mono ?_); rintro z wr ⟨rfl, hbr⟩; have hPr := below_step hP hbr; refine hK.out _ _ (hPr) (fun hP => ?_); clear hK K)
        (refine wsPlan_take rfl (fun K hK => ?_); replace hK := Lib.hid hK; go_simp; first | (refine hK.out _ ?_; clear hK K) | (apply Exists.intro; refine ⟨fun w' hw => ?_, hK.out _ ?_⟩; (first | with_reducible exact rfl | (have f1 := F1 w' hw; have f3 := F3 w' hw; have f7 := F7 w' hw; go_simp; exact rfl)); clear hK K))
        (refine wsPlan_take rfl (fun K hK => ?_); replace hK := Lib.hid hK; go_simp; first | (refine hK.out _ ?_; clear hK K) | (apply Exists.intro; refine ⟨fun w' hw => ?_, hK.out _ ?_⟩; (first | with_reducible exact rfl | (have f1 := F1 w' hw; have f3 := F3 w' hw; have f7 := F7 w' hw; go_simp; exact rfl)); clear hK K))
        (refine wsPlan_take rfl (fun K hK => ?_); replace hK := Lib.hid hK; go_simp; first | (refine hK.out _ ?_; clear hK K) | (apply Exists.intro; refine ⟨fun w' hw => ?_, hK.out _ ?_⟩; (first | with_reducible exact rfl | (have f1 := F1 w' hw; have f3 := F3 w' hw; have f7 := F7 w' hw; go_simp; exact rfl)); clear hK K))
        (refine wsPlan_take rfl (fun K hK => ?_); replace hK := Lib.hid hK; go_simp; first | (refine hK.out _ ?_; clear hK K) | (apply Exists.intro; refine ⟨fun w' hw => ?_, hK.out _ ?_⟩; (first | with_reducible exact rfl | (have f1 := F1 w' hw; have f3 := F3 w' hw; have f7 := F7 w' hw; go_simp; exact rfl)); clear hK K))
        (refine wsPlan_take rfl (fun K hK => ?_); replace hK := Lib.hid hK; go_simp; first | (refine hK.out _ ?_; clear hK K) | (apply Exists.intro; refine ⟨fun w' hw => ?_, hK.out _ ?_⟩; (first | with_reducible exact rfl | (have f1 := F1 w' hw; have f3 := F3 w' hw; have f7 := F7 w' hw; go_simp; exact rfl)); clear hK K))
        (refine wsPlan_take rfl (fun K hK => ?_); replace hK := Lib.hid hK; go_simp; first | (refine hK.out _ ?_; clear hK K) | (apply Exists.intro; refine ⟨fun w' hw => ?_, hK.out _ ?_⟩; (first | with_reducible exact rfl | (have f1 := F1 w' hw; have f3 := F3 w' hw; have f7 := F7 w' hw; go_simp; exact rfl)); clear hK K))
        (refine wsPlan_take rfl (fun K hK => ?_); replace hK := Lib.hid hK; go_simp; first | (refine hK.out _ ?_; clear hK K) | (apply Exists.intro; refine ⟨fun w' hw => ?_, hK.out _ ?_⟩; (first | with_reducible exact rfl | (have f1 := F1 w' hw; have f3 := F3 w' hw; have f7 := F7 w' hw; go_simp; exact rfl)); clear hK K))
        (refine wsPlan_take rfl (fun K hK => ?_); replace hK := Lib.hid hK; go_simp; first | (refine hK.out _ ?_; clear hK K) | (apply Exists.intro; refine ⟨fun w' hw => ?_, hK.out _ ?_⟩; (first | with_reducible exact rfl | (have f1 := F1 w' hw; have f3 := F3 w' hw; have f7 := F7 w' hw; go_simp; exact rfl)); clear hK K))
        (refine wsPlan_take rfl (fun K hK => ?_); replace hK := Lib.hid hK; go_simp; first | (refine hK.out _ ?_; clear hK K) | (apply Exists.intro; refine ⟨fun w' hw => ?_, hK.out _ ?_⟩; (first | with_reducible exact rfl | (have f1 := F1 w' hw; have f3 := F3 w' hw; have f7 := F7 w' hw; go_simp; exact rfl)); clear hK K))
        refine wsPlan_done ?_
        have HZ := Lib.hid (HE.out.trans (hP.mono (by have := HB.out.size; have := hC7.size; omega)))
        clear F1 F3 F7
        go_wp2_with fail
        go_returns
        exact ⟨rfl, HZ.out⟩
end Go.Proofs.YtdmegkkifiahdaaGreat
