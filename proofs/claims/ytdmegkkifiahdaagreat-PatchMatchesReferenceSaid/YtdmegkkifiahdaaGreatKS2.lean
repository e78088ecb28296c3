import Derived.Test.YtdmegkkifiahdaaGreatKP
namespace Go.Proofs.YtdmegkkifiahdaaGreat
open Go.RowKit
attribute [local go_sem] bqOp bqAll bqUpon sqOp sqAll sqUpon
attribute [local irreducible] wpQuiet wpBQ wpPlan
set_option linter.unusedVariables false
theorem wyup_any (x y : Int) (w : World) {v : Bool} (hv : upD x y = v) : Calls Tryz.prog 247 #[.agg #[.int .i64 x, .int .i64 y]] w fun e w' => e = .returned (.bool v) ∧ Below w.heap.size w w' := by
 have HV := Lib.hid (show decide (0 < y ∨ y = 0 ∧ 0 < x) = v from hv)
 clear hv
 go_enter Tryz.func247, Tryz.ntmps247
 go_wp2
 all_goals
  go_returns
  exact ⟨ret_bool (by rw [← HV.out]; (refine Bool.eq_iff_iff.2 ?_; simp only [decide_eq_true_eq, true_iff]; (try unfold upD); omega)), by go_grown⟩
theorem dir_bd {x y u v : Int} (h : DirOk x y) (k : DirOk u v) : (-1000000000000 ≤ x * v ∧ x * v ≤ 1000000000000) ∧ (-1000000000000 ≤ y * u ∧ y * u ≤ 1000000000000) := by
 obtain ⟨_, a1, a2, a3, a4⟩ := h
 obtain ⟨_, b1, b2, b3, b4⟩ := k
 exact ⟨mul_bd a3 a1 b4 b2, mul_bd a4 a2 b3 b1⟩
theorem wycross_any (x y u v : Int) (w : World) (h : DirOk x y) (k : DirOk u v) {c : Int} (hc : cprD x y u v = c) : Calls Tryz.prog 248 #[.agg #[.int .i64 x, .int .i64 y], .agg #[.int .i64 u, .int .i64 v]] w fun e w' => e = .returned (.int .i64 c) ∧ Below w.heap.size w w' := by
 obtain ⟨⟨a1, a2⟩, a3, a4⟩ := dir_bd h k
 have HC := Lib.hid (show x * v - y * u = c from hc)
 clear h k hc
 go_enter Tryz.func248, Tryz.ntmps248
 go_wp2
 go_returns
 exact ⟨ret_int HC.out, by go_grown⟩
theorem wyok_any (x y : Int) (w : World) {v : Bool} (hv : decide (DirOk x y) = v) : Calls Tryz.prog 321 #[.agg #[.int .i64 x, .int .i64 y]] w fun e w' => e = .returned (.bool v) ∧ Below w.heap.size w w' := by
 have HV := Lib.hid hv
 clear hv
 go_enter Tryz.func321, Tryz.ntmps321
 go_wp2
 all_goals
  go_returns
  exact ⟨ret_bool (by rw [← HV.out]; (refine Bool.eq_iff_iff.2 ?_; simp only [decide_eq_true_eq, Bool.false_eq_true, true_iff, false_iff]; (try unfold DirOk); omega)), by go_grown⟩
theorem wycmp_any (x y u v : Int) (w : World) (h : DirOk x y) (k : DirOk u v) {c : Int} (hc : cmpD x y u v = c) : Calls Tryz.prog 158 #[.agg #[.int .i64 x, .int .i64 y], .agg #[.int .i64 u, .int .i64 v]] w fun e w' => e = .returned (.int .i64 c) ∧ Below w.heap.size w w' := by
 obtain ⟨u1, hu1⟩ : ∃ b, upD x y = b := ⟨_, rfl⟩
 obtain ⟨u2, hu2⟩ : ∃ b, upD u v = b := ⟨_, rfl⟩
 obtain ⟨cr, hcr⟩ : ∃ b, cprD x y u v = b := ⟨_, rfl⟩
 have HC : Hid ((if u1 ≠ u2 then (if u1 = true then (-1 : Int) else 1) else if 0 < cr then -1 else if cr < 0 then 1 else 0) = c) := Lib.hid (by rw [← hc, ← hu1, ← hu2, ← hcr]; rfl)
 have U1 := Lib.hid hu1
 have U2 := Lib.hid hu2
 have CR := Lib.hid hcr
 have H := Lib.hid h
 have K := Lib.hid k
 clear hu1 hu2 hcr hc h k
 go_enter Tryz.func158, Tryz.ntmps158
 go_wp2_with fail
 refine wp_named fun W hW => ?_
 obtain ⟨p1, p2, hB⟩ := box2 hW
 clear hW
 have q1 := cellsR p1
 have q2 := cellsR p2
 refine wp_region_plan (.take 0 (.take 1 (.only 0 (.only 0 (.take 0 (.take 0 .done)))))) (by kernel_rfl) (by kernel_rfl) (fun hP => ?_)
 repeat' (first
  | (refine wpPlan_two ?_ ?_)
  | (refine wpPlan_three ?_ ?_ ?_)
  | (refine wpPlan_take rfl (fun K hK => ?_); replace hK := Lib.hid hK; go_simp; first | (refine hK.out _ ?_; clear hK K) | (apply Exists.intro; refine ⟨fun _ => ?_, hK.out _ ?_⟩; (first | with_reducible exact rfl | skip); clear hK K))
  | (refine wpPlan_only rfl (fun K hK => ?_); replace hK := Lib.hid hK; (first | (go_simp; first | ((go_at_call 247; (with_reducible refine (wyup_any x y _ U1.out).mono ?_)); rintro e w2 ⟨rfl, hbx⟩) | ((go_at_call 247; (with_reducible refine (wyup_any u v _ U2.out).mono ?_)); rintro e w2 ⟨rfl, hbx⟩) | skip)); refine hK.out _ _ (by first | assumption | exact below_step hP hbx | exact hP.drew | exact hP.alloc hP.size _) (fun hP => ?_); clear hK K))
 all_goals refine wpPlan_done ?_
 have hB2 := below_step hB hP
 have p1' := cellsL (block_later hP p1)
 have p2' := cellsL (block_later hP p2)
 clear q1 q2 p1 p2
 have r0 := p1' _ (Below.refl _ _)
 have r2 := p2' _ (Below.refl _ _)
 cases u1 <;> cases u2
 all_goals go_wp2_with fail
 · (with_reducible refine (wycross_any _ _ _ _ _ H.out K.out CR.out).mono ?_)
   rintro e w3 ⟨rfl, hb3⟩
   have hB3 := below_step hB2 hb3
   rcases Int.lt_trichotomy cr 0 with h | h | h
   rotate_left
   · have CZ := Lib.hid h
     have d1 : decide (0 < cr) = false := by simp [h]
     have d2 : decide (cr < 0) = false := by simp [h]
     clear h
     go_wp2_with fail
     (with_reducible refine (wycross_any _ _ _ _ _ H.out K.out CR.out).mono ?_)
     rintro e w4 ⟨rfl, hb4⟩
     go_wp2_with fail
     go_returns
     exact ⟨ret_int (by rw [← HC.out, if_neg (by simp), CZ.out]; rfl), below_step hB3 hb4⟩
   · go_wp2_with fail
     go_returns
     exact ⟨ret_int (by rw [← HC.out, if_neg (by simp), if_pos h]), hB3⟩
   · have d1 : decide (0 < cr) = false := by simp; omega
     have d3 : cr ≤ 0 := by omega
     go_wp2_with fail
     (with_reducible refine (wycross_any _ _ _ _ _ H.out K.out CR.out).mono ?_)
     rintro e w4 ⟨rfl, hb4⟩
     go_wp2_with fail
     go_returns
     exact ⟨ret_int (by rw [← HC.out, if_neg (by simp), if_neg (by omega), if_pos h]), below_step hB3 hb4⟩
 · (with_reducible refine (wyup_any x y _ U1.out).mono ?_)
   rintro e w3 ⟨rfl, hb3⟩
   have hB3 := below_step hB2 hb3
   go_wp2_with fail
   go_returns
   exact ⟨ret_int (by rw [← HC.out]; rfl), hB3⟩
 · (with_reducible refine (wyup_any x y _ U1.out).mono ?_)
   rintro e w3 ⟨rfl, hb3⟩
   have hB3 := below_step hB2 hb3
   go_wp2_with fail
   go_returns
   exact ⟨ret_int (by rw [← HC.out]; rfl), hB3⟩
 · (with_reducible refine (wycross_any _ _ _ _ _ H.out K.out CR.out).mono ?_)
   rintro e w3 ⟨rfl, hb3⟩
   have hB3 := below_step hB2 hb3
   rcases Int.lt_trichotomy cr 0 with h | h | h
   rotate_left
   · have CZ := Lib.hid h
     have d1 : decide (0 < cr) = false := by simp [h]
     have d2 : decide (cr < 0) = false := by simp [h]
     clear h
     go_wp2_with fail
     (with_reducible refine (wycross_any _ _ _ _ _ H.out K.out CR.out).mono ?_)
     rintro e w4 ⟨rfl, hb4⟩
     go_wp2_with fail
     go_returns
     exact ⟨ret_int (by rw [← HC.out, if_neg (by simp), CZ.out]; rfl), below_step hB3 hb4⟩
   · go_wp2_with fail
     go_returns
     exact ⟨ret_int (by rw [← HC.out, if_neg (by simp), if_pos h]), hB3⟩
   · have d1 : decide (0 < cr) = false := by simp; omega
     have d3 : cr ≤ 0 := by omega
     go_wp2_with fail
     (with_reducible refine (wycross_any _ _ _ _ _ H.out K.out CR.out).mono ?_)
     rintro e w4 ⟨rfl, hb4⟩
     go_wp2_with fail
     go_returns
     exact ⟨ret_int (by rw [← HC.out, if_neg (by simp), if_neg (by omega), if_pos h]), below_step hB3 hb4⟩
end Go.Proofs.YtdmegkkifiahdaaGreat
namespace Go.Proofs.YtdmegkkifiahdaaGreat
open Go.RowKit
attribute [local go_sem] bqOp bqAll bqUpon sqOp sqAll sqUpon
attribute [local irreducible] wpQuiet wpBQ wpPlan
set_option linter.unusedVariables false
theorem cmpD_cases (x y u v : Int) : cmpD x y u v = -1 ∨ cmpD x y u v = 0 ∨ cmpD x y u v = 1 := by
 unfold cmpD
 repeat' split
 all_goals omega
set_option maxHeartbeats 1000000 in
theorem schas_any (a b c d e0 f0 x y : Int) (w : World) (h1 : DirOk a b) (h2 : DirOk c d) (h3 : DirOk x y) {v : Bool} (hv : hasD a b c d x y = v) :
  Calls Tryz.prog 237 #[.agg #[.int .i64 a, .int .i64 b, .int .i64 c, .int .i64 d, .int .i64 e0, .int .i64 f0], .agg #[.int .i64 x, .int .i64 y]] w fun e w' => e = .returned (.bool v) ∧ Below w.heap.size w w' := by
 obtain ⟨k1, hk1⟩ : ∃ k, cmpD a b x y = k := ⟨_, rfl⟩
 obtain ⟨k2, hk2⟩ : ∃ k, cmpD c d x y = k := ⟨_, rfl⟩
 obtain ⟨k3, hk3⟩ : ∃ k, cmpD a b c d = k := ⟨_, rfl⟩
 have m3 := cmpD_cases a b c d
 rw [hk3] at m3
 have HV : Hid ((if k3 = -1 then decide (k1 ≤ 0) && !decide (k2 ≤ 0) else if k3 = 1 then decide (k1 ≤ 0) || !decide (k2 ≤ 0) else true) = v) := Lib.hid (by rw [← hv, ← hk1, ← hk2, ← hk3]; rfl)
 have C1 := Lib.hid hk1
 have C2 := Lib.hid hk2
 have C3 := Lib.hid hk3
 have H1 := Lib.hid h1
 have H2 := Lib.hid h2
 have H3 := Lib.hid h3
 have M3 := Lib.hid m3
 clear hk1 hk2 hk3 hv h1 h2 h3 m3
 go_enter Tryz.func237, Tryz.ntmps237
 go_wp2_with fail
 refine wp_named fun W hW => ?_
 obtain ⟨p1, p2, hB⟩ := box2 hW
 clear hW
 have q1 := cellsR p1
 refine wp_region_plan (.take 0 (.take 0 (.take 0 (.take 0 (.two 0 (.only 0 (.only 0 (.only 0 .done))) 1 (.only 0 (.only 0 (.only 0 .done)))))))) (by kernel_rfl) (by kernel_rfl) (fun hP => ?_)
 repeat' (first
  | (refine wpPlan_two ?_ ?_)
  | (refine wpPlan_three ?_ ?_ ?_)
  | (refine wpPlan_take rfl (fun K hK => ?_); replace hK := Lib.hid hK; go_simp; first | (refine hK.out _ ?_; clear hK K) | (apply Exists.intro; refine ⟨fun _ => ?_, hK.out _ ?_⟩; (first | with_reducible exact rfl | skip); clear hK K))
  | (refine wpPlan_only rfl (fun K hK => ?_); replace hK := Lib.hid hK; (first | (go_simp; first | skip)); refine hK.out _ _ (by first | assumption | exact (((Below.refl _ _).alloc (Nat.le_refl _) _).alloc (by simp) _).drew | exact below_step hP hbx | exact hP.drew | exact hP.alloc hP.size _) (fun hP => ?_); clear hK K))
 all_goals refine wpPlan_done ?_
 all_goals
  refine onlyN_named fun W3 hW3 => ?_
  obtain ⟨pP, pQ, hB3⟩ := box2d hW3
  first
   | (have pA : W3.heap[W.heap.size]? = some (.cells #[.int .i64 a, .int .i64 b] 192 (0, 0)) := pP
      have pB : W3.heap[W.heap.size + 1]? = some (.cells #[.int .i64 c, .int .i64 d] 192 (0, 0)) := pQ)
   | (have pA : W3.heap[W.heap.size + 1]? = some (.cells #[.int .i64 a, .int .i64 b] 192 (0, 0)) := pQ
      have pB : W3.heap[W.heap.size]? = some (.cells #[.int .i64 c, .int .i64 d] 192 (0, 0)) := pP)
  have p2' := block_later hB3 p2
  have hB4 := below_step hB hB3
  clear hP hW3 pP pQ q1 p1 p2 hB hB3
  have qA := cellsR pA
  have qB := cellsR pB
  have qC := cellsR p2'
  go_wp2_with fail
  refine wp_region_plan (.take 0 (.take 0 (.take 2 (.take 2 (.only 0 (.take 0 (.only 0 (.take 0 (.take 0 (.take 0 .done)))))))))) (by kernel_rfl) (by kernel_rfl) (fun hP => ?_)
  repeat' (first
   | (refine wpPlan_two ?_ ?_)
   | (refine wpPlan_three ?_ ?_ ?_)
   | (refine wpPlan_take rfl (fun K hK => ?_); replace hK := Lib.hid hK; go_simp; first | (refine hK.out _ ?_; clear hK K) | (apply Exists.intro; refine ⟨fun _ => ?_, hK.out _ ?_⟩; (first | with_reducible exact rfl | skip); clear hK K))
   | (refine wpPlan_only rfl (fun K hK => ?_); replace hK := Lib.hid hK; (first | (go_simp; first | ((go_at_call 158; (with_reducible refine (wycmp_any a b x y _ H1.out H3.out C1.out).mono ?_)); rintro e w2 ⟨rfl, hbx⟩) | ((go_at_call 158; (with_reducible refine (wycmp_any c d x y _ H2.out H3.out C2.out).mono ?_)); rintro e w2 ⟨rfl, hbx⟩) | skip)); refine hK.out _ _ (by first | assumption | exact below_step hP hbx | exact hP.drew | exact hP.alloc hP.size _) (fun hP => ?_); clear hK K))
  all_goals refine wpPlan_done ?_
  have hB5 := below_step hB4 hP
  have pA' := block_later hP pA
  have pB' := block_later hP pB
  clear qA qB qC pA pB p2' hP hB4
  have cA0 := cell_block pA' 0
  have cA1 := cell_block pA' 1
  have cB0 := cell_block pB' 0
  have cB1 := cell_block pB' 1
  clear pA' pB'
  go_wp2_with fail
  (with_reducible refine (wycmp_any a b c d _ H1.out H2.out C3.out).mono ?_)
  rintro e w6 ⟨rfl, hb6⟩
  have hB6 := below_step hB5 hb6
  clear cA0 cA1 cB0 cB1 hb6 hB5
  obtain ⟨b1, hb1⟩ : ∃ t, decide (k1 ≤ 0) = t := ⟨_, rfl⟩
  obtain ⟨b2, hb2⟩ : ∃ t, decide (k2 ≤ 0) = t := ⟨_, rfl⟩
  have hv := HV.out
  rw [hb1, hb2] at hv
  have HW := Lib.hid hv
  rcases M3.out with m | m | m
  all_goals
   subst m
   clear hv
   cases b1 <;> cases b2
   all_goals
    go_wp2_with fail
    go_returns
    exact ⟨ret_bool (by rw [← HW.out]; rfl), hB6⟩
theorem scvalid_any (a b c d e0 f0 : Int) (w : World) {v : Bool} (hv : decide (SecOk (Sec.c ⟨a, b, c, d, e0, f0⟩)) = v) : Calls Tryz.prog 236 #[.agg #[.int .i64 a, .int .i64 b, .int .i64 c, .int .i64 d, .int .i64 e0, .int .i64 f0]] w fun e w' => e = .returned (.bool v) ∧ Below w.heap.size w w' := by
 obtain ⟨u1, hu1⟩ : ∃ k, decide (DirOk a b) = k := ⟨_, rfl⟩
 obtain ⟨u2, hu2⟩ : ∃ k, decide (DirOk c d) = k := ⟨_, rfl⟩
 have HV := Lib.hid (show decide (DirOk a b ∧ DirOk c d ∧ 1 ≤ e0 ∧ e0 ≤ 3 ∧ 1 ≤ f0 ∧ f0 ≤ 3000000) = v from hv)
 have U1 := Lib.hid hu1
 have U2 := Lib.hid hu2
 clear hv hu1 hu2
 go_enter Tryz.func236, Tryz.ntmps236
 go_wp2_with fail
 refine calls_named fun W hW => ?_
 obtain ⟨p1, hB⟩ := box1 hW
 clear hW
 (with_reducible refine (wyok_any _ _ _ U1.out).mono ?_)
 rintro e w1 ⟨rfl, hb1⟩
 have hB1 := below_step hB hb1
 have r1 := block_later hb1 p1
 have c2 := cell_block r1 2
 have c3 := cell_block r1 3
 have c4 := cell_block r1 4
 have c5 := cell_block r1 5
 cases u1
 · go_wp2_with fail
   go_returns
   exact ⟨ret_bool (by rw [← HV.out]; exact (decide_eq_false (fun h => of_decide_eq_false U1.out h.1)).symm), hB1⟩
 go_wp2_with fail
 (with_reducible refine (wyok_any _ _ _ U2.out).mono ?_)
 rintro e w2 ⟨rfl, hb2⟩
 have hB2 := below_step hB1 hb2
 have r2 := block_later hb2 r1
 clear c2 c3 c4 c5 p1 hb1
 have c4 := cell_block r2 4
 have c5 := cell_block r2 5
 clear r1 r2
 cases u2
 · go_wp2_with fail
   go_returns
   exact ⟨ret_bool (by rw [← HV.out]; exact (decide_eq_false (fun h => of_decide_eq_false U2.out h.2.1)).symm), hB2⟩
 have HW := Lib.hid (show decide (1 ≤ e0 ∧ e0 ≤ 3 ∧ 1 ≤ f0 ∧ f0 ≤ 3000000) = v by
  rw [← HV.out, decide_eq_decide]
  exact ⟨fun h => ⟨of_decide_eq_true U1.out, of_decide_eq_true U2.out, h⟩, fun h => h.2.2⟩)
 go_wp2
 all_goals
  go_returns
  exact ⟨ret_bool (by rw [← HW.out]; refine Bool.eq_iff_iff.2 ?_; simp only [decide_eq_true_eq, Bool.false_eq_true, false_iff]; omega), hB2⟩
theorem secs_step {S : Nat → Nat → Int} {k : Nat} (h : ∀ i, i < k → SecOk (S i) ∧ ∀ j, j < i → SecsApart (S i) (S j)) (h1 : SecOk (S k)) (h2 : ∀ j, j < k → SecsApart (S k) (S j)) : ∀ i, i < k + 1 → SecOk (S i) ∧ ∀ j, j < i → SecsApart (S i) (S j) := fun i hi => by
 rcases Nat.lt_or_ge i k with g | g
 · exact h i g
 · obtain rfl : i = k := by omega
   exact ⟨h1, h2⟩
set_option maxHeartbeats 1000000 in
theorem scValid_any (n c : Nat) (ad : Option Addr) (S : Nat → Nat → Int) (w : World) (hR : Rows 6 w (.slice ad n c) n S) (hn : n ≤ 9223372036854775807) (hnc : n ≤ c) {v : Bool} (hd : decide (SecsOk n S) = v) :
  Calls Tryz.prog 145 #[.slice ad n c] w fun e w' => e = .returned (.bool v) ∧ Below w.heap.size w w' := by
 have HR := Lib.hid hR
 have HD := Lib.hid hd
 clear hR hd
 go_enter Tryz.func145, Tryz.ntmps145
 go_wp2
 go_loopw [9] (fun i wr => ∃ k : Nat, k ≤ n ∧ i = .int .i64 k ∧ Below w.heap.size w wr ∧ ∀ i, i < k → SecOk (S i) ∧ ∀ j, j < i → SecsApart (S i) (S j)) (fun i _ => n - (intOf i).toNat)
 case atStart => exact ⟨0, by omega, rfl, Below.refl _ _, fun m hm => by omega⟩
 case round =>
  obtain ⟨k, hk, rfl, hb, hall⟩ := hrel
  have ALL := Lib.hid hall
  clear hall
  rcases Nat.lt_or_ge k n with hlt | hge
  rotate_left
  · obtain rfl : k = n := by omega
    go_wp2
    go_returns
    exact ⟨ret_bool (by
     rw [← HD.out, decide_eq_decide]
     exact ⟨fun h => ⟨by omega, ALL.out⟩, fun h => by have := h.1; omega⟩), hb⟩
  obtain ⟨wo, rfl⟩ : ∃ wo : World, wo = wr := ⟨_, rfl⟩
  obtain ⟨g, o, rfl, hc⟩ := (HR.out.later hb).row hlt
  have c0 := hc 0 (by omega)
  have c1 := hc 1 (by omega)
  have c2 := hc 2 (by omega)
  have c3 := hc 3 (by omega)
  have c4 := hc 4 (by omega)
  have c5 := hc 5 (by omega)
  simp only [Nat.add_zero] at c0
  clear hc
  obtain ⟨u, hu⟩ : ∃ u, decide (SecOk (Sec.c ⟨S k 0, S k 1, S k 2, S k 3, S k 4, S k 5⟩)) = u := ⟨_, rfl⟩
  have HU := Lib.hid hu
  clear hu
  go_wp2_with fail
  refine calls_named fun W hW => ?_
  obtain ⟨p1, hBW⟩ := box1 hW
  clear hW c0 c1 c2 c3 c4 c5
  (with_reducible refine (scvalid_any _ _ _ _ _ _ _ HU.out).mono ?_)
  rintro e w1 ⟨rfl, hb1⟩
  have hB1 := below_step (below_step hb hBW) hb1
  have P1 := Lib.hid (block_later hb1 p1)
  clear p1 hBW hb1
  cases u
  · go_wp2_with fail
    go_returns
    exact ⟨ret_bool (by rw [← HD.out]; exact (decide_eq_false (fun h => of_decide_eq_false HU.out (h.2 k hlt).1)).symm), hB1⟩
  have OKk := Lib.hid (show SecOk (S k) from of_decide_eq_true HU.out)
  clear HU
  have hkc : k ≤ c := by omega
  go_wp2_with fail
  go_loopw [21] (fun i wr => ∃ m : Nat, m ≤ k ∧ i = .int .i64 m ∧ Below w.heap.size w wr ∧ wr.heap[wo.heap.size]? = some (.cells #[.int .i64 (S k 0), .int .i64 (S k 1), .int .i64 (S k 2), .int .i64 (S k 3), .int .i64 (S k 4), .int .i64 (S k 5)] 151 (0, 0)) ∧ ∀ j, j < m → SecsApart (S k) (S j)) (fun i _ => k - (intOf i).toNat)
  case atStart => exact ⟨0, by omega, rfl, hB1, P1.out, fun m hm => by omega⟩
  case round =>
   clear hB1 P1
   obtain ⟨m, hm, rfl, hb2, p2, hap⟩ := hrel
   have AP := Lib.hid hap
   clear hap
   rcases Nat.lt_or_ge m k with hlm | hgm
   rotate_left
   · obtain rfl : m = k := by omega
     have ALL2 := Lib.hid (secs_step ALL.out OKk.out AP.out)
     clear p2
     go_wp2_with fail
     go_roundw
     case rel => exact ⟨m + 1, by omega, by go_num, hb2, ALL2.out⟩
     case measure => simp [intOf]; omega
   obtain ⟨g', o', e', hc⟩ := (HR.out.later hb2).row (show m < n by omega)
   cases e'
   have c0 := hc 0 (by omega)
   have c1 := hc 1 (by omega)
   have c2 := hc 2 (by omega)
   have c3 := hc 3 (by omega)
   have c4 := hc 4 (by omega)
   have c5 := hc 5 (by omega)
   simp only [Nat.add_zero] at c0
   clear hc
   have s0 := cell_block p2 0
   have s1 := cell_block p2 1
   have s2 := cell_block p2 2
   have s3 := cell_block p2 3
   have s4 := cell_block p2 4
   have s5 := cell_block p2 5
   have P2 := Lib.hid p2
   clear p2
   have hkm := (ALL.out m hlm).1
   have DM := Lib.hid hkm.1
   have DK := Lib.hid OKk.out.1
   have DM2 := Lib.hid hkm.2.1
   have DK2 := Lib.hid OKk.out.2.1
   clear hkm
   obtain ⟨u1, hu1⟩ : ∃ u, hasD (S k 0) (S k 1) (S k 2) (S k 3) (S m 0) (S m 1) = u := ⟨_, rfl⟩
   obtain ⟨u2, hu2⟩ : ∃ u, hasD (S m 0) (S m 1) (S m 2) (S m 3) (S k 0) (S k 1) = u := ⟨_, rfl⟩
   have U1 := Lib.hid hu1
   have U2 := Lib.hid hu2
   clear hu1 hu2
   have hsz := lt_block P2.out
   obtain ⟨wi, rfl⟩ : ∃ wi : World, wi = wr := ⟨_, rfl⟩
   go_wp2_with fail
   refine calls_named fun W hW => ?_
   obtain ⟨p3, hBW⟩ := box1 hW
   clear hW c0 c1 c2 c3 c4 c5 s0 s1 s2 s3 s4 s5
   have P2' := Lib.hid (block_later hBW P2.out)
   (with_reducible refine (schas_any _ _ _ _ _ _ _ _ _ DK.out DK2.out DM.out U1.out).mono ?_)
   rintro e w3 ⟨rfl, hb3⟩
   have hB3 := below_step (below_step hb2 hBW) hb3
   have P3 := Lib.hid (block_later hb3 P2'.out)
   have Q3 := Lib.hid (block_later hb3 p3)
   clear p3 hBW hb3 P2' hb2
   cases u1
   rotate_left
   · go_wp2_with fail
     go_returns
     exact ⟨ret_bool (by rw [← HD.out]; exact (decide_eq_false (fun h => by have := ((h.2 k hlt).2 m hlm).1; rw [U1.out] at this; cases this)).symm), hB3⟩
   have s0 := cell_block P3.out 0
   have s1 := cell_block P3.out 1
   have t0 := cell_block Q3.out 0
   have t1 := cell_block Q3.out 1
   have t2 := cell_block Q3.out 2
   have t3 := cell_block Q3.out 3
   have t4 := cell_block Q3.out 4
   have t5 := cell_block Q3.out 5
   go_wp2_with fail
   (with_reducible refine (schas_any _ _ _ _ _ _ _ _ _ DM.out DM2.out DK.out U2.out).mono ?_)
   rintro e w4 ⟨rfl, hb4⟩
   have hB4 := below_step hB3 hb4
   have P4 := Lib.hid (block_later hb4 P3.out)
   clear s0 s1 t0 t1 t2 t3 t4 t5 P3 Q3 hb4 hB3
   cases u2
   · have AP2 := Lib.hid (show ∀ j, j < m + 1 → SecsApart (S k) (S j) from fun j hj => by
      rcases Nat.lt_or_ge j m with h | h
      · exact AP.out j h
      · obtain rfl : j = m := by omega
        exact ⟨U1.out, U2.out⟩)
     go_wp2_with fail
     go_roundw
     case rel => exact ⟨m + 1, by omega, by go_num, hB4, P4.out, AP2.out⟩
     case measure => simp [intOf]; omega
   · go_wp2_with fail
     go_returns
     exact ⟨ret_bool (by rw [← HD.out]; exact (decide_eq_false (fun h => by have := ((h.2 k hlt).2 m hlm).2; rw [U2.out] at this; cases this)).symm), hB4⟩
end Go.Proofs.YtdmegkkifiahdaaGreat
