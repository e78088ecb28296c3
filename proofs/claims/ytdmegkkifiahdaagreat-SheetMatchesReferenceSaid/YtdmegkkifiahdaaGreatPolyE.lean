/- The walk of place: where a place is to a polygon. -/
import Derived.Test.YtdmegkkifiahdaaGreatKB
namespace Go.Proofs.YtdmegkkifiahdaaGreat
open Go.RowKit Go.Shelf
attribute [local go_sem] bqOp bqAll bqUpon sqOp sqAll sqUpon
attribute [local irreducible] wpQuiet wpBQ wpPlan
attribute [local go_sem] Oper.semAt_some
set_option linter.unusedVariables false
def oddL (B : Nat → Bool) {n : Nat} (l : List (Fin n)) : Bool := l.foldl (fun s i => if B i.1 = true then !s else s) false
theorem oddL_snoc (B : Nat → Bool) {n : Nat} (l : List (Fin n)) (i : Fin n) : oddL B (l ++ [i]) = if B i.1 = true then !oddL B l else oddL B l := by simp [oddL]
theorem oddL_pre (B : Nat → Bool) {n : Nat} : ∀ k, k ≤ n → oddL B (preN n k) = oddN B k
  | 0, _ => rfl
  | k + 1, h => by rw [preN_snoc (by omega : k < n), oddL_snoc, oddL_pre B k (by omega)]; rfl
theorem oddL_all (B : Nat → Bool) (n : Nat) : oddL B (List.finRange n) = oddN B n := by rw [← preN_all, oddL_pre B n (Nat.le_refl _)]
theorem place_on {n : Nat} {X : Nat → Nat → Int} {qx qy : Int} (i : Fin n) (h : onX n X qx qy i.1 = true) : placeI n X qx qy = 0 := by
  unfold placeI anyN
  rw [if_pos (decide_eq_true ⟨i.1, i.2, h⟩)]
theorem place_off {n : Nat} {X : Nat → Nat → Int} {qx qy : Int} (h : ∀ i ∈ List.finRange n, onX n X qx qy i.1 = false) : placeI n X qx qy = if oddN (goesX n X qx qy) n = true then 1 else -1 := by
  unfold placeI anyN
  rw [if_neg]
  rw [decide_eq_true_eq]
  rintro ⟨i, hi, he⟩
  rw [h ⟨i, hi⟩ (List.mem_finRange _)] at he
  cases he
theorem set4 {n b1 b2 i1 i2 i3 i4 : Nat} {w w' : World} {v1 v2 v3 v4 : Value} (h : Below n w w') (h1 : n ≤ b1) (h2 : n ≤ b2) : Below n w ((((w'.setCell ⟨b1, i1, none⟩ v1).setCell ⟨b1, i2, none⟩ v2).setCell ⟨b2, i3, none⟩ v3).setCell ⟨b2, i4, none⟩ v4) :=
  (((h.setCell (p := ⟨b1, i1, none⟩) h1 _).setCell (p := ⟨b1, i2, none⟩) h1 _).setCell (p := ⟨b2, i3, none⟩) h2 _).setCell (p := ⟨b2, i4, none⟩) h2 _
theorem onlyN_named {Q : Exit → Act → World → Prop} {e : Exit} {a : Act} {w0 : World} (h : ∀ W, W = w0 → Q e a W) : Q e a w0 := h _ rfl
theorem box2d {w W : World} {o1 o2 : Obj} (h : W = ((w.alloc o1).alloc o2).drew) : W.heap[w.heap.size]? = some o1 ∧ W.heap[w.heap.size + 1]? = some o2 ∧ Below w.heap.size w W := by
  subst h
  exact ⟨block_alloc (block_new_at _ (by simp)), block_new_at _ (by simp), (((Below.refl _ _).alloc (Nat.le_refl _) _).alloc (by simp only [World.size_alloc]; omega) _).drew⟩
set_option maxRecDepth 20000 in
set_option maxHeartbeats 4000000 in
theorem plplace_any (n c : Nat) (ad : Option Addr) (X : Nat → Nat → Int) (qx qy : Int) (w : World) (hR : Rows 2 w (.slice ad n c) n X) (hn : n ≤ 1000) (hv : VldsX n X) (hq : Vld qx qy) {v : Int} (hd : placeI n X qx qy = v) :
    Calls Tryz.prog 349 #[.slice ad n c, .agg #[.int .i64 qx, .int .i64 qy]] w fun e w' => e = .returned (.int .i64 v) ∧ Below w.heap.size w w' := by
  have HV := Lib.hid hv
  have HR := Lib.hid hR
  have HD := Lib.hid hd
  have HQ := Lib.hid hq
  clear hv hR hd hq
  refine (callsIn_wide (n := 8)).1 ?_
  refine callsIn_of_wp_marks Tryz.func349 rfl trivial ?_ rfl
  simp only [Tryz.ntmps349, List.append_toArray, List.cons_append, List.nil_append, List.size_toArray, List.length_cons, List.length_nil, Nat.reduceAdd, Nat.reduceSub, Array.replicate_succ, Array.replicate_zero, List.push_toArray]
  gi_wp2
  refine ⟨trivial, ?_⟩
  refine (callsIn_wide.2 (pledges_any n c ad _)).mono ?_
  rintro e w' ⟨rfl, rfl⟩
  gi_wp2
  generalize hW0 : (World.alloc _ _) = W0
  have hs0 : W0.heap.size = w.heap.size + 4 := by subst hW0; simp
  obtain ⟨p1, p2, p3, p4, hB0⟩ := box4 hW0.symm
  clear hW0
  refine wpIn_rangeFunc_round (F := Fence.wide) (n := 8) rfl (by omega) (gf := 353) (lb := #[.pointer (some ⟨w.heap.size + 3, 0, none⟩)]) rfl trivial (enters_of Tryz.func353 (by kernel_rfl) rfl)
    (pledges1_stops n c ad X (w.heap.size + 3) w.heap.size 7 (by omega) w W0 HR.out hn hB0 (Nat.le_refl _) (by omega) (by omega) p4)
    EdgeK.trans (edgeK_b (by omega) (by omega)) (Below.refl _ _) (fun _ => rfl)
    (fun pre W => (∀ i ∈ pre, onX n X qx qy i.1 = false) ∧ W.heap[w.heap.size]? = some (.cells #[.int .i64 qx, .int .i64 qy] 28 (0, 0)) ∧ W.heap[w.heap.size + 1]? = some (.cells #[.int .i64 0] 3 (0, 0)) ∧ W.heap[w.heap.size + 2]? = some (.cells #[.bool (oddL (goesX n X qx qy) pre)] 4 (0, 0)) ∧ EdgeK w.heap.size (w.heap.size + 3) W0 W)
    (fun c pre W => (c = .ret ∧ placeI n X qx qy = 0) ∧ W.heap[w.heap.size + 1]? = some (.cells #[.int .i64 0] 3 (0, 0)) ∧ EdgeK w.heap.size (w.heap.size + 3) W0 W)
    (OwnFrom.and (ownFrom_pure _ _) (OwnFrom.and blk_own (OwnFrom.and blk_own (OwnFrom.and blk_own (edgeK_own (by omega) (by omega) (by omega) (by omega))))))
    (fun c => OwnFrom.and (ownFrom_pure _ _) (OwnFrom.and blk_own (edgeK_own (by omega) (by omega) (by omega) (by omega)))) ⟨fun i hi => by simp at hi, p1, p2, p3, EdgeK.refl _ _ _⟩ ?round ?done ?stop
  case round =>
    rintro l pre x W ⟨hpre0, q1, q2, q3, hK⟩
    have hsW := hK.below.size
    dsimp only [encE]
    gi_wp2
    have hbl := (Below.refl W.heap.size W).alloc (Nat.le_refl _) (.cells #[.int .i64 (X x 0), .int .i64 (X x 1), .int .i64 (X (nxt n x) 0), .int .i64 (X (nxt n x) 1)] 314)
    refine ⟨(KeepsOthers.alloc _ _).from _, EdgeK.of_below hbl (by omega) (by omega), ⟨hpre0, block_later hbl q1, block_later hbl q2, block_later hbl q3, hK.trans (EdgeK.of_below hbl (by omega) (by omega))⟩, ?_⟩
    rintro l2 pre2 W2 hT hl2 _ ⟨hpre, u1, u2, u3, hK2⟩ hlen
    have hs2 := hK2.below.size
    have f := hT.cs (block_new W (.cells #[.int .i64 (X x 0), .int .i64 (X x 1), .int .i64 (X (nxt n x) 0), .int .i64 (X (nxt n x) 1)] 314))
    clear hT hbl q1 q2 q3 hK hpre0
    have fr := cellsR f
    have hlx := x.2
    have U1 := Lib.hid u1
    have U2 := Lib.hid u2
    have U3 := Lib.hid u3
    have K2 := Lib.hid hK2
    have HP := Lib.hid hpre
    clear u1 u2 u3 hK2 hpre
    gi_wp2
    refine wpIn_region_plan (.take 0 (.take 0 (.take 0 (.take 0 (.two 0 (.only 0 (.only 0 (.only 0 .done))) 1 (.only 0 (.only 0 (.only 0 .done)))))))) (by kernel_rfl) (by kernel_rfl) (by kernel_rfl) (fun hP => ?_)
    repeat' (first
      | (refine wpPlan_two ?_ ?_)
      | (refine wpPlan_three ?_ ?_ ?_)
      | (refine wpPlan_take rfl (fun K hK => ?_); replace hK := Lib.hid hK; go_simp; first | (refine hK.out _ ?_; clear hK K) | (apply Exists.intro; refine ⟨fun _ => ?_, hK.out _ ?_⟩; (first | with_reducible exact rfl | skip); clear hK K))
      | (refine wpPlan_only rfl (fun K hK => ?_); replace hK := Lib.hid hK; (first | (go_simp; first | skip)); refine hK.out _ _ (by first | assumption | exact (((Below.refl _ _).alloc (Nat.le_refl _) _).alloc (by simp) _).drew | exact below_step hP hbx | exact hP.drew | exact hP.alloc hP.size _) (fun hP => ?_); clear hK K))
    all_goals refine wpPlan_doneN ?_
    all_goals
      refine onlyN_named fun W3 hW3 => ?_
      obtain ⟨pP, pQ, hB3⟩ := box2d hW3
      first
        | (have pA : W3.heap[W2.heap.size]? = some (.cells #[.int .i64 (X x 0), .int .i64 (X x 1)] 28 (0, 0)) := pP
           have pB : W3.heap[W2.heap.size + 1]? = some (.cells #[.int .i64 (X (nxt n x) 0), .int .i64 (X (nxt n x) 1)] 28 (0, 0)) := pQ
           have tokA : True := trivial)
        | (have pA : W3.heap[W2.heap.size + 1]? = some (.cells #[.int .i64 (X x 0), .int .i64 (X x 1)] 28 (0, 0)) := pQ
           have pB : W3.heap[W2.heap.size]? = some (.cells #[.int .i64 (X (nxt n x) 0), .int .i64 (X (nxt n x) 1)] 28 (0, 0)) := pP
           have tokA : True := trivial)
      clear hP hW3 pP pQ fr
      have a0 := cell_block pA 0
      have a1 := cell_block pA 1
      have b0 := cell_block pB 0
      have b1 := cell_block pB 1
      have c0 := cell_block (block_later hB3 U1.out) 0
      have c1 := cell_block (block_later hB3 U1.out) 1
      obtain ⟨v1, hv1⟩ : ∃ v1, onX n X qx qy x.1 = v1 := ⟨_, rfl⟩
      have V1 := Lib.hid hv1
      clear hv1
      gi_wp2
      refine ⟨trivial, ?_⟩
      refine (CallsIn.inRound l2 (callsIn_wide.2 (plon_any _ _ _ _ _ _ _ HQ.out (HV.out x.1 hlx) (HV.out _ (nxt_lt hlx)) (show onB qx qy (X x.1 0) (X x.1 1) (X (nxt n x.1) 0) (X (nxt n x.1) 1) = v1 from V1.out)))).mono ?_
      rintro e w5 ⟨rfl, hb5⟩
      clear a0 a1 b0 b1 c0 c1
      have hB5 := below_step hB3 hb5
      have hs5 := hB5.size
      cases v1
      rotate_left
      · have z0 := cell_block (block_later hB5 U2.out) 0
        have z1 := free_block (block_later hB5 U2.out) 0
        have R5 := Lib.hid hB5
        clear hB5 hb5 hB3 pA pB
        gi_wp2
        exact ⟨(keeps_below R5.out).trans ((KeepsOthers.setCell _ _ _).from _), ⟨rfl, place_on x V1.out⟩, block_set (block_later R5.out U2.out) _, (K2.out.trans (EdgeK.of_below R5.out (by omega) (by omega))).trans (EdgeK.set _ _ _ (by omega) (by omega))⟩
      have hpA := block_later hb5 pA
      have hpB := block_later hb5 pB
      have PA := Lib.hid hpA
      have PB := Lib.hid hpB
      have R5 := Lib.hid hB5
      clear hpA hpB pA pB hB5 hb5 hB3
      have a0 := cell_block PA.out 0
      have a1 := cell_block PA.out 1
      have b0 := cell_block PB.out 0
      have b1 := cell_block PB.out 1
      have a2 := fun i => free_block PA.out i
      have b2 := fun i => free_block PB.out i
      obtain ⟨fl, hfl⟩ : ∃ fl, oddL (goesX n X qx qy) pre2 = fl := ⟨_, rfl⟩
      have FL := Lib.hid hfl
      clear hfl
      have ons : ∀ i ∈ pre2 ++ [x], onX n X qx qy i.1 = false := fun i hi => by
        rcases List.mem_append.1 hi with h | h
        · exact HP.out i h
        · obtain rfl : i = x := by simpa using h
          exact V1.out
      have KEEP := Lib.hid (show goesX n X qx qy x.1 = false → ∀ W6, Below W2.heap.size W2 W6 → KeepsFrom W0.heap.size W2 W6 ∧ EdgeK w.heap.size (w.heap.size + 3) W2 W6 ∧ (∀ i ∈ pre2 ++ [x], onX n X qx qy i.1 = false) ∧ W6.heap[w.heap.size]? = some (.cells #[.int .i64 qx, .int .i64 qy] 28 (0, 0)) ∧ W6.heap[w.heap.size + 1]? = some (.cells #[.int .i64 0] 3 (0, 0)) ∧ W6.heap[w.heap.size + 2]? = some (.cells #[.bool (oddL (goesX n X qx qy) (pre2 ++ [x]))] 4 (0, 0)) ∧ EdgeK w.heap.size (w.heap.size + 3) W0 W6 from fun hg W6 h6 => ⟨keeps_below h6, EdgeK.of_below h6 (by omega) (by omega), ons, block_later h6 U1.out, block_later h6 U2.out, by rw [oddL_snoc, if_neg (by rw [hg]; simp)]; exact block_later h6 U3.out, K2.out.trans (EdgeK.of_below h6 (by omega) (by omega))⟩)
      have FLIP := Lib.hid (show goesX n X qx qy x.1 = true → ∀ W5, Below W2.heap.size W2 W5 → (fun W6 => KeepsFrom W0.heap.size W2 W6 ∧ EdgeK w.heap.size (w.heap.size + 3) W2 W6 ∧ (∀ i ∈ pre2 ++ [x], onX n X qx qy i.1 = false) ∧ W6.heap[w.heap.size]? = some (.cells #[.int .i64 qx, .int .i64 qy] 28 (0, 0)) ∧ W6.heap[w.heap.size + 1]? = some (.cells #[.int .i64 0] 3 (0, 0)) ∧ W6.heap[w.heap.size + 2]? = some (.cells #[.bool (oddL (goesX n X qx qy) (pre2 ++ [x]))] 4 (0, 0)) ∧ EdgeK w.heap.size (w.heap.size + 3) W0 W6) (W5.setCell ⟨w.heap.size + 1 + 1, 0, none⟩ (.bool (!fl))) from fun hg W5 h5 => ⟨(keeps_below h5).trans ((KeepsOthers.setCell _ _ _).from _), (EdgeK.of_below h5 (by omega) (by omega)).trans (EdgeK.set _ _ _ (by omega) (by omega)), ons, block_far (block_later h5 U1.out) (by simp; omega) _, block_far (block_later h5 U2.out) (by simp) _, by rw [oddL_snoc, if_pos hg, FL.out]; exact block_set (block_later h5 U3.out) _, (K2.out.trans (EdgeK.of_below h5 (by omega) (by omega))).trans (EdgeK.set _ _ _ (by omega) (by omega))⟩)
      clear ons
      have c0 := cell_block (block_later R5.out U1.out) 0
      have c1 := cell_block (block_later R5.out U1.out) 1
      have ne1 : w.heap.size ≠ W2.heap.size := by omega
      have ne2 : w.heap.size ≠ W2.heap.size + 1 := by omega
      by_cases hsw : X (nxt n x) 1 < X x 1
      ·
        have GO := Lib.hid (show goesX n X qx qy x.1 = decide (X (nxt n x) 1 ≤ qy ∧ qy < X x 1 ∧ 0 < (crs (X (nxt n x) 0) (X (nxt n x) 1) (X x 0) (X x 1) qx qy).sign) from by unfold goesX goesB; rw [if_pos hsw])
        skip
        skip
        by_cases g1 : X (nxt n x) 1 ≤ qy
        rotate_left
        · have G := Lib.hid (show goesX n X qx qy x.1 = false by rw [GO.out]; exact decide_eq_false (fun h => g1 h.1))
          have d1 : decide (X (nxt n x) 1 ≤ qy) = false := by simp; omega
          clear g1
          gi_wp2
          refine ⟨trivial, ?_⟩
          gi_wp2
          exact KEEP.out G.out _ (set4 R5.out (by omega) (by omega))
        by_cases g2 : qy < X x 1
        rotate_left
        · have G := Lib.hid (show goesX n X qx qy x.1 = false by rw [GO.out]; exact decide_eq_false (fun h => g2 h.2.1))
          have d2 : decide (qy < X x 1) = false := by simp; omega
          clear g2
          gi_wp2
          refine ⟨trivial, ?_⟩
          gi_wp2
          exact KEEP.out G.out _ (set4 R5.out (by omega) (by omega))
        obtain ⟨sg, hsg⟩ : ∃ sg, (crs (X (nxt n x) 0) (X (nxt n x) 1) (X x 0) (X x 1) qx qy).sign = sg := ⟨_, rfl⟩
        have SG := Lib.hid hsg
        clear hsg
        gi_wp2
        refine ⟨trivial, ?_⟩
        refine (CallsIn.inRound l2 (callsIn_wide.2 (plturn_any _ _ _ _ _ _ _ (HV.out _ (nxt_lt hlx)) (HV.out _ hlx) HQ.out SG.out))).mono ?_
        rintro e w6 ⟨rfl, hb6⟩
        have R6 := Lib.hid (below_step (set4 R5.out (by omega) (by omega)) hb6)
        clear hb6
        have G12 := Lib.hid (And.intro g1 g2)
        clear a0 a1 b0 b1 a2 b2 c0 c1 hsw g1 g2
        have z0 := cell_block (block_later R6.out U3.out) 0
        have z1 := free_block (block_later R6.out U3.out) 0
        rw [FL.out] at z0
        by_cases g3 : 0 < sg
        · have G := Lib.hid (show goesX n X qx qy x.1 = true by rw [GO.out, SG.out]; exact decide_eq_true ⟨G12.out.1, G12.out.2, g3⟩)
          gi_wp2
          exact FLIP.out G.out _ R6.out
        · have G := Lib.hid (show goesX n X qx qy x.1 = false by rw [GO.out, SG.out]; exact decide_eq_false (fun h => g3 h.2.2))
          have d3 : decide (0 < sg) = false := by simp; omega
          have d4 : sg ≤ 0 := by omega
          clear g3
          gi_wp2
          exact KEEP.out G.out _ R6.out
      ·
        have GO := Lib.hid (show goesX n X qx qy x.1 = decide (X x 1 ≤ qy ∧ qy < X (nxt n x) 1 ∧ 0 < (crs (X x 0) (X x 1) (X (nxt n x) 0) (X (nxt n x) 1) qx qy).sign) from by unfold goesX goesB; rw [if_neg hsw])
        have hsw2 : X x 1 ≤ X (nxt n x) 1 := by omega
        clear hsw
        by_cases g1 : X x 1 ≤ qy
        rotate_left
        · have G := Lib.hid (show goesX n X qx qy x.1 = false by rw [GO.out]; exact decide_eq_false (fun h => g1 h.1))
          have d1 : decide (X x 1 ≤ qy) = false := by simp; omega
          clear g1
          gi_wp2
          refine ⟨trivial, ?_⟩
          gi_wp2
          exact KEEP.out G.out _ (R5.out)
        by_cases g2 : qy < X (nxt n x) 1
        rotate_left
        · have G := Lib.hid (show goesX n X qx qy x.1 = false by rw [GO.out]; exact decide_eq_false (fun h => g2 h.2.1))
          have d2 : decide (qy < X (nxt n x) 1) = false := by simp; omega
          clear g2
          gi_wp2
          refine ⟨trivial, ?_⟩
          gi_wp2
          exact KEEP.out G.out _ (R5.out)
        obtain ⟨sg, hsg⟩ : ∃ sg, (crs (X x 0) (X x 1) (X (nxt n x) 0) (X (nxt n x) 1) qx qy).sign = sg := ⟨_, rfl⟩
        have SG := Lib.hid hsg
        clear hsg
        gi_wp2
        refine ⟨trivial, ?_⟩
        refine (CallsIn.inRound l2 (callsIn_wide.2 (plturn_any _ _ _ _ _ _ _ (HV.out _ hlx) (HV.out _ (nxt_lt hlx)) HQ.out SG.out))).mono ?_
        rintro e w6 ⟨rfl, hb6⟩
        have R6 := Lib.hid (below_step (R5.out) hb6)
        clear hb6
        have G12 := Lib.hid (And.intro g1 g2)
        clear a0 a1 b0 b1 a2 b2 c0 c1 hsw2 g1 g2
        have z0 := cell_block (block_later R6.out U3.out) 0
        have z1 := free_block (block_later R6.out U3.out) 0
        rw [FL.out] at z0
        by_cases g3 : 0 < sg
        · have G := Lib.hid (show goesX n X qx qy x.1 = true by rw [GO.out, SG.out]; exact decide_eq_true ⟨G12.out.1, G12.out.2, g3⟩)
          gi_wp2
          exact FLIP.out G.out _ R6.out
        · have G := Lib.hid (show goesX n X qx qy x.1 = false by rw [GO.out, SG.out]; exact decide_eq_false (fun h => g3 h.2.2))
          have d3 : decide (0 < sg) = false := by simp; omega
          have d4 : sg ≤ 0 := by omega
          clear g3
          gi_wp2
          exact KEEP.out G.out _ R6.out
  case done =>
    rintro D xs W hD rfl ⟨hq, q1, q2, q3, hK⟩ hdef
    rw [oddL_all] at q3
    obtain ⟨fl, hfl⟩ : ∃ fl, oddN (goesX n X qx qy) n = fl := ⟨_, rfl⟩
    rw [hfl] at q3
    have s0 := cell_block q2 0
    have s1 := free_block q2 0
    have s3 := cell_block q3 0
    have HDF := Lib.hid hdef
    have Q2 := Lib.hid q2
    have K := Lib.hid hK
    have HE := Lib.hid (show v = if fl = true then 1 else -1 by rw [← HD.out, place_off hq, hfl])
    clear q1 q2 q3 hdef hK hq hfl
    cases fl
    all_goals
      gi_wp2
      refine ⟨by simp, .inl ⟨_, _, rfl, run_takeDeferred ((KeepsOthers.setCell W _ _).same D _ HDF.out rfl), ?_⟩⟩
      have hc5 := fun u => cell_block ((World.putObj_heap_other (w := W.setCell ⟨w.heap.size + 1, 0, none⟩ u) (r := D) (show w.heap.size + 1 ≠ D by omega) (o := .deferred none)).trans (block_set Q2.out u)) 0
      refine ⟨.int .i64 v, ?_, rfl, hB0.trans ((K.out.below.setCell (p := ⟨w.heap.size + 1, 0, none⟩) (by simp) _).trans (belowK_b (w := w) (Nat.le_refl _) _ D _ _ (by omega) ((KeepsOthers.setCell W ⟨w.heap.size + 1, 0, none⟩ _).same D _ HDF.out rfl) rfl rfl))⟩
      rw [HE.out]
      simp [results, Tryz.results349, go_sem, hc5]
  case stop =>
    rintro D c pre W hD hpre ⟨⟨rfl, hds⟩, q2, hK⟩ hdef
    have HDF := Lib.hid hdef
    gi_wp2
    refine ⟨by simp, .inl ⟨_, _, rfl, run_takeDeferred HDF.out, ?_⟩⟩
    have hc5 := cell_block ((World.putObj_heap_other (w := W) (r := D) (show w.heap.size + 1 ≠ D by omega) (o := .deferred none)).trans q2) 0
    refine ⟨.int .i64 0, ?_, by rw [← HD.out, hds], hB0.trans (hK.below.trans (belowK_b (w := w) (Nat.le_refl _) W D _ _ (by omega) HDF.out rfl rfl))⟩
    simp [results, Tryz.results349, go_sem, hc5]
end Go.Proofs.YtdmegkkifiahdaaGreat
