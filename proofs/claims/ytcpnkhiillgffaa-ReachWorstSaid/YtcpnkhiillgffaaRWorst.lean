/- For any net, pieces, area and times: the statement ReachWorst of chapter 33 (a worst track is a track through the first time that ends at the second one in the area, on it a ship hears as many pieces, and this is the least integer of the table's last row for the area): the law's function returns true and leaves its arguments as they were. No condition. -/
import Derived.Test.YtcpnkhiillgffaaRhB
import Derived.Test.YtcpnkhiillgffaaRhC
import Derived.Test.YtcpnkhiillgffaaRhF
import Derived.Test.YtcpnkhiillgffaaFrameR
namespace Go.Proofs.Ytcpnkhiillgffaa
open Go.ChangeShapes Go.WideShapes Go.ChangeAt Go.RowKit
attribute [local go_sem] bqOp bqAll bqUpon field_stop0 field_stop1
attribute [local irreducible] wpQuiet wpBQ
set_option linter.unusedVariables false
theorem worstQ_no {np ne na m : Nat} {X E A Y : Nat → Nat → Int} {f u : Int} (h : ¬ (TblOk np X ne E na A f u ∧ AreaOk np m Y)) : worstQ np X ne E na A m Y f u = (0, 1) := by unfold worstQ; rw [if_neg h]
theorem worstQ_nil {np ne na : Nat} {X E A Y : Nat → Nat → Int} {f u : Int} (h : TblOk np X ne E na A f u ∧ AreaOk np 0 Y) : worstQ np X ne E na A 0 Y f u = (0, 4) := by unfold worstQ; rw [if_pos h, if_pos rfl]
theorem worstQ_yes {np ne na m : Nat} {X E A Y : Nat → Nat → Int} {f u : Int} (h : TblOk np X ne E na A f u ∧ AreaOk np m Y) (hm : 1 ≤ m) : worstQ np X ne E na A m Y f u = (minA (tblI X A E na f u ne (u - f).toNat) Y m, 0) := by unfold worstQ; rw [if_pos h, if_neg (by omega)]
/-- What holds of Worst's track. -/
theorem worst_fact {np ne na m : Nat} {X E A Y : Nat → Nat → Int} {f : Int} {b p : Nat} (h : TblOk np X ne E na A f (f + (b : Int)) ∧ AreaOk np m Y) (hm : 1 ≤ m) (hp : p < np) {wv : Int} (hw : minA (tblI X A E na f (f + (b : Int)) ne b) Y m = wv) (hv : wv = tblI X A E na f (f + (b : Int)) ne b p) (hb : b ≤ 400) :
    ∃ (n : Nat) (M : Nat → Nat → Int), (∀ w v, Rows 2 w v (((p : Int), f + (b : Int)) :: trk X A E (tblI X A E na f (f + (b : Int)) ne) na f ne (b + 1) b p).length (fun i j => pairX (((p : Int), f + (b : Int)) :: trk X A E (tblI X A E na f (f + (b : Int)) ne) na f ne (b + 1) b p) ((((p : Int), f + (b : Int)) :: trk X A E (tblI X A E na f (f + (b : Int)) ne) na f ne (b + 1) b p).length - 1 - i) j) → Rows 2 w v n M) ∧
      1 ≤ n ∧ TrackOk np X ne E n M ∧ M 0 1 ≤ f ∧ M (n - 1) 0 = (p : Int) ∧ M (n - 1) 1 = f + (b : Int) ∧ countR np X ne E n M na A f = (wv, 0) ∧ ∀ i, i < m → wv ≤ tblI X A E na f (f + (b : Int)) ne b (Y i 0).toNat := by
  obtain ⟨⟨hN, hA, t1, t2, t3, t4⟩, hY⟩ := h
  have eN : (f + (b : Int) - f + 1).toNat = b + 1 := by omega
  have key := trk_ok (X := X) (E := E) (A := A) (n := b + 1) hN hA t1 (by omega) (by omega) b p hp (by omega)
  have e : tblI X A E na f (f + (b : Int)) ne = tblN X A E na f ne (b + 1) := by unfold tblI; rw [eN]
  rw [e] at hw hv ⊢
  obtain ⟨k1, k2, k3, k4, k5, k6, k7⟩ := key
  refine ⟨_, backX (((p : Int), f + (b : Int)) :: trk X A E (tblN X A E na f ne (b + 1)) na f ne (b + 1) b p), fun w v h => h, k1, ?_, k4, k5, k6, ?_, fun i hi => (le_minA.1 (Int.le_of_eq hw.symm)).2 i hi⟩
  · exact ⟨hN, k1, by omega, k3⟩
  · rw [countR_eq]
    unfold countQ
    rw [if_pos ⟨⟨hN, k1, by omega, k3⟩, hA, t1, by omega⟩, k7, hv]
set_option maxRecDepth 100000 in
set_option maxHeartbeats 8000000 in
theorem reachWorst_walk {np c ne c2 na c4 m c5 : Nat} {ad ad2 ad4 ad5 : Option Addr} {X E A Y : Nat → Nat → Int} (f u : Int) {w : World} (hX : Rows 2 w (.slice ad np c) np X) (hE : Rows 4 w (.slice ad2 ne c2) ne E) (hA : Rows 4 w (.slice ad4 na c4) na A) (hY : Rows 1 w (.slice ad5 m c5) m Y) :
    Calls Try.prog 5 #[.agg #[.slice ad np c, .slice ad2 ne c2], .slice ad4 na c4, .slice ad5 m c5, .int .i64 f, .int .i64 u] w fun e w' => e = .returned (.bool true) ∧ Below w.heap.size w w' := by
  have n1 : np ≤ 9223372036854775807 := by obtain ⟨_, _, _, h, _⟩ := hX; exact h
  have n2 : ne ≤ 9223372036854775807 := by obtain ⟨_, _, _, h, _⟩ := hE; exact h
  have n4 : na ≤ 9223372036854775807 := by obtain ⟨_, _, _, h, _⟩ := hA; exact h
  have n5 : m ≤ 9223372036854775807 := by obtain ⟨_, _, _, h, _⟩ := hY; exact h
  have HX := Lib.hid hX
  have HE := Lib.hid hE
  have HA := Lib.hid hA
  have HY := Lib.hid hY
  clear hX hE hA hY
  go_enter Try.func5, Try.ntmps5
  go_wp2_with fail
  refine calls_named fun W hW => ?_
  obtain ⟨p1, hB⟩ := box1 hW
  clear hW
  have P1 := Lib.hid p1
  clear p1
  have q1 := cellsL P1.out
  (with_reducible refine (head33_true _).mono ?_)
  rintro e w1 ⟨rfl, hB1⟩
  have hC1 := below_step hB hB1
  go_wp2_with fail
  obtain ⟨vf, hvf⟩ : ∃ v, decide (FewOk np ne na E) = v := ⟨_, rfl⟩
  have Hvf := Lib.hid hvf
  clear hvf
  (with_reducible refine (q33Few_any np c ne c2 na c4 ad ad2 ad4 E _ (HE.out.later hC1) Hvf.out).mono ?_)
  rintro e w2 ⟨rfl, hb2⟩
  have hB2 := below_step hB1 hb2
  have hC2 := below_step hB hB2
  clear hb2
  cases vf
  · go_wp2_with fail
    go_returns
    exact ⟨rfl, hC2⟩
  have FEW : FewOk np ne na E := of_decide_eq_true Hvf.out
  have FW := Lib.hid FEW
  clear FEW Hvf
  go_wp2_with fail
  obtain ⟨vt, hvt⟩ : ∃ v, decide (0 ≤ f ∧ f ≤ u ∧ u ≤ 10000000 ∧ u - f ≤ 400) = v := ⟨_, rfl⟩
  have Hvt := Lib.hid hvt
  clear hvt
  (with_reducible refine (q33Times_any f u _ Hvt.out).mono ?_)
  rintro e w3 ⟨rfl, hb3⟩
  have hB3 := below_step hB2 hb3
  have hC3 := below_step hB hB3
  clear hb3
  cases vt
  · go_wp2_with fail
    go_returns
    exact ⟨rfl, hC3⟩
  obtain ⟨t1, t2, t3, t4⟩ := of_decide_eq_true Hvt.out
  have TM := Lib.hid (show TimesOk f u from of_decide_eq_true Hvt.out)
  clear Hvt
  by_cases z2 : 60 < u - f
  · go_wp2_with fail
    go_returns
    exact ⟨rfl, hC3⟩
  go_wp2_with fail
  (with_reducible refine (hWorst_any np c ne c2 na c4 m c5 ad ad2 ad4 ad5 X E A Y f u _ (HX.out.later hC3) (HE.out.later hC3) (HA.out.later hC3) (HY.out.later hC3) n1 n2 n4 n5).mono ?_)
  rintro e w4 ⟨hb4, lv, hz, hno, hyes⟩
  have hB4 := below_step hB3 hb4
  have hC4 := below_step hB hB4
  clear hb4
  by_cases g : TblOk np X ne E na A f u ∧ AreaOk np m Y
  rotate_left
  · rw [worstQ_no g] at hz
    obtain rfl : lv = .slice none 0 0 := hno.resolve_left fun h => g ⟨h.1, h.2.1⟩
    subst hz
    clear hno hyes g
    go_wp2_with fail
    go_returns
    exact ⟨rfl, hC4⟩
  by_cases hm : m = 0
  · subst hm
    rw [worstQ_nil g] at hz
    obtain rfl : lv = .slice none 0 0 := hno.resolve_left fun h => by have := h.2.2; omega
    subst hz
    clear hno hyes g
    go_wp2_with fail
    go_returns
    exact ⟨rfl, hC4⟩
  have m1 : 1 ≤ m := by omega
  rw [worstQ_yes g m1] at hz hyes
  obtain ⟨p, b, hub, hp, hin, hval, hrows⟩ := hyes ⟨g.1, g.2, m1⟩
  obtain rfl : u = f + (b : Int) := by omega
  rw [show (f + (b : Int) - f).toNat = b by omega] at hz hval
  obtain ⟨wv, hw⟩ : ∃ x, minA (tblI X A E na f (f + (b : Int)) ne b) Y m = x := ⟨_, rfl⟩
  rw [hw] at hz hval
  obtain ⟨nl, M, hR, nl1, htr, hM0, hMp, hMu, hcnt, hle⟩ := worst_fact g m1 hp hw hval (by omega)
  replace hrows := hR _ _ hrows
  obtain ⟨adl, cl, rfl, hrr, n3⟩ := hrows.form
  subst hz
  have HL := Lib.hid hrr
  have TR := Lib.hid htr
  have MP := Lib.hid hMp
  have MU := Lib.hid hMu
  have CC := Lib.hid hcnt
  have IN := Lib.hid hin
  have LE := Lib.hid hle
  have GT : Hid (NetOk np X ne E ∧ AirsOk na A ∧ TimesOk f (f + (b : Int))) := Lib.hid g.1
  have YO := Lib.hid g.2
  clear hno hyes hR hrows hrr htr hMp hMu hcnt hin hle g hw hval
  obtain ⟨l0, hl0⟩ : ∃ x, M 0 1 = x := ⟨_, rfl⟩
  rw [hl0] at hM0
  obtain ⟨g1, o1, rfl, hcl⟩ := HL.out.row (show 0 < nl by omega)
  have K1 := hcl 1 (by omega)
  rw [hl0] at K1
  simp only [Nat.zero_mul, Nat.add_zero] at K1
  replace K1 := Lib.hid K1
  clear hcl hl0
  have hL4 := Below.refl w4.heap.size w4
  go_wp2_with fail
  (with_reducible refine (hTable_yes np c ne c2 na c4 ad ad2 ad4 X E A f (f + (b : Int)) _ (HX.out.later hC4) (HE.out.later hC4) (HA.out.later hC4) n1 n2 n4 GT.out.1 GT.out.2.1 GT.out.2.2).mono ?_)
  rintro e w5 ⟨tv, rfl, hb5, htab⟩
  have hB5 := below_step hB4 hb5
  have hC5 := below_step hB hB5
  have hL5 := below_step hL4 hb5
  clear hb5
  rw [show (f + (b : Int) - f + 1).toNat = b + 1 by omega] at htab
  obtain ⟨atv, ctv, rfl, htt, -⟩ := htab.form
  have TT := Lib.hid htt
  clear htab htt
  have hT5 := Below.refl w5.heap.size w5
  go_wp2_with fail
  (with_reducible refine (hCount_any np c ne c2 na c4 nl cl ad ad2 ad4 _ X E A M f _ (HX.out.later hC5) (HE.out.later hC5) (HA.out.later hC5) (HL.out.later hL5) n1 n2 n3 n4 CC.out).mono ?_)
  rintro e w6 ⟨rfl, hb6⟩
  have hB6 := below_step hB5 hb6
  have hC6 := below_step hB hB6
  have hL6 := below_step hL5 hb6
  have hT6 := below_step hT5 hb6
  clear hb6
  have d0 : ((nl : Int) == 0) = false := by simp; omega
  have d1 : (((b + 1 : Nat) : Int) != f + (b : Int) - f + 1) = false := by simp; omega
  obtain ⟨g2, o2, a2, k2, rfl, hc2, hl2, hr2⟩ := TT.out.row (show b < b + 1 by omega)
  have R2 := Lib.hid hr2
  have C2 := Lib.hid hc2
  clear hr2 hc2
  go_wp2_with fail
  go_loopw [19, 11, 109] (fun v9 v1 i wr => ∃ (k : Nat) (bb : Bool), k ≤ m ∧ v9 = .bool bb ∧ v1 = .bool true ∧ i = .int .i64 k ∧ Below w6.heap.size w6 wr ∧ ∀ i, i < k → Y i 0 = (p : Int) → bb = true) (fun _ _ i _ => m - (intOf i).toNat)
  case atStart => exact ⟨0, false, by omega, rfl, rfl, rfl, Below.refl _ _, fun i hi => by omega⟩
  case round =>
    obtain ⟨k, bb, hk, rfl, rfl, rfl, hbr, hib⟩ := hrel
    have IB := Lib.hid hib
    clear hib
    have hBr := below_step hB6 hbr
    have hCr := below_step hC6 hbr
    have hTr := below_step hT6 hbr
    have hLr := below_step hL6 hbr
    by_cases hlt : k < m
    rotate_left
    · obtain rfl : k = m := by omega
      obtain rfl : bb = true := by
        obtain ⟨i, hi, e⟩ := IN.out
        exact IB.out i hi e
      clear IB IN LE
      obtain ⟨w7, rfl⟩ : ∃ w', w' = wr := ⟨_, rfl⟩
      have hB7 := hBr
      have hC7 := hCr
      have hT7 := hTr
      have hL7 := hLr
      go_wp2_with fail
      skip
      (with_reducible refine (hTrack_any np c ne c2 nl cl ad ad2 _ X E M _ (HX.out.later hC7) (HE.out.later hC7) (HL.out.later hL7) n1 n2 n3 (decide_eq_true TR.out)).mono ?_)
      rintro e w8 ⟨rfl, hb8⟩
      have hB8 := below_step hB7 hb8
      have hC8 := below_step hB hB8
      have hL8 := below_step hL7 hb8
      have hT8 := below_step hT7 hb8
      clear hb8
      have k1 := cell_later hL8 K1.out
      go_wp2_with fail
      clear k1
      (with_reducible refine (l33ends_any nl cl _ M _ (HL.out.later hL8) nl1 MP.out MU.out).mono ?_)
      rintro e w9 ⟨rfl, hb9⟩
      have hB9 := below_step hB8 hb9
      have hC9 := below_step hB hB9
      have hL9 := below_step hL8 hb9
      have hT9 := below_step hT8 hb9
      clear hb9
      go_wp2_with fail
      go_returns
      exact ⟨rfl, hC9⟩
    have yr := (YO.out k hlt).1
    obtain ⟨y, ey⟩ : ∃ y : Nat, Y k 0 = (y : Int) := ⟨(Y k 0).toNat, by omega⟩
    have yl : y < np := by omega
    obtain ⟨g3, o3, rfl, hc3⟩ := HY.out.int hlt
    obtain ⟨g4, o4, rfl, hc4⟩ := R2.out.int yl
    have le := LE.out k hlt
    unfold tblI at le
    rw [show (f + (b : Int) - f + 1).toNat = b + 1 by omega, ey, Int.toNat_natCast] at le
    rw [ey] at hc3
    obtain ⟨x, hx⟩ : ∃ x, tblN X A E na f ne (b + 1) b y = x := ⟨_, rfl⟩
    rw [hx] at hc4 le
    have D3 := Lib.hid hc3
    have D4 := Lib.hid hc4
    have EY := Lib.hid ey
    clear hc3 hc4 hx ey yr
    have ib : f + (b : Int) - f = (b : Int) := by omega
    have q3 := cell_later hCr D3.out
    have q4 := cell_later hTr C2.out
    have q5 := cell_later hTr D4.out
    cases bb
    rotate_left
    · go_wp2_with fail
      go_roundw
      case rel => exact ⟨k + 1, true, by omega, rfl, rfl, by go_num, hbr, fun _ _ _ => rfl⟩
      case measure => simp [intOf]; omega
    go_wp2_with fail
    (with_reducible refine (l33ends_any nl cl _ M _ (HL.out.later hLr) nl1 MP.out MU.out).mono ?_)
    rintro e we ⟨rfl, hbe⟩
    clear q3 q4 q5
    have q4 := cell_later (below_step hTr hbe) C2.out
    have q5 := cell_later (below_step hTr hbe) D4.out
    have hbr2 := below_step hbr hbe
    have FIN := Lib.hid (fun (v : Bool) (hv : (y : Int) = (p : Int) → v = true) (i : Nat) (hi : i < k + 1) (e : Y i 0 = (p : Int)) => show v = true by
      rcases Nat.lt_or_ge i k with h | h
      · cases IB.out i h e
      · obtain rfl : i = k := by omega
        exact hv (EY.out.symm.trans e))
    clear hbr hbe hBr hCr hTr hLr
    go_wp2_with fail
    go_roundw
    case rel => exact ⟨k + 1, _, by omega, rfl, rfl, by go_num, hbr2, FIN.out _ fun h => by simp [h]⟩
    case measure => simp [intOf]; omega
set_option maxRecDepth 100000 in
theorem reachWorst_lifted (os : Os) (started : os.Started) (H : Type) (enc : TypeId × Value → H) :
    ReturnsInHanded {} Try.checked os 5 .any (Rows.reachWorstSpec.pre6 enc Try.prog Try.f5 Rows.reachWorstRow.domain false) (Rows.reachWorstSpec.post enc Try.prog Try.f5 false true false false) := by
  refine returnsInHanded_of_change (C := Try.checked) own_knob started (by kernel_rfl) Try.func5
    (ChangeSpec.witness6 (enc := enc) (C := Try.checked) false ⟨#[], #[.agg #[.slice none 0 0, .slice none 0 0], .slice none 0 0, .slice none 0 0, .int .i64 0, .int .i64 0], []⟩ 8 (by kernel_rfl) (by kernel_rfl) (by kernel_rfl) (by kernel_rfl)) ?_
  intro W base args ds gs before hval0 hW hcnd _
  have hval : ∀ (j : Nat) t v, Try.f5.params[j]? = some t → args[j]? = some v → Value.okWide Try.prog W .any base t v := hval0
  have hW' := hW
  obtain ⟨p, q, hA0, hV, rfl, hfz, hnd⟩ := hW
  have hA : DataW.TrodAll enc Try.prog W 0 (fun _ => true) true Try.f5.params.toList args.toList ds p := hA0
  rw [Try.params5] at hA hval
  obtain ⟨v0, vs0, d0, ds0, p0, q0, hargs, rfl, rfl, h0, r0⟩ := trodAll_cons hA
  obtain ⟨v1, vs1, d1, ds1, p1, q1, rfl, rfl, rfl, h1, r1⟩ := trodAll_cons r0
  obtain ⟨v2, vs2, d2, ds2, p2, q2, rfl, rfl, rfl, h2, r2⟩ := trodAll_cons r1
  obtain ⟨v3, vs3, d3, ds3, p3, q3, rfl, rfl, rfl, h3, r3⟩ := trodAll_cons r2
  obtain ⟨v4, vs4, d4, ds4, p4, q4, rfl, rfl, rfl, h4, r4⟩ := trodAll_cons r3
  obtain ⟨rfl, rfl, rfl⟩ := trodAll_nil r4
  obtain rfl : args = #[v0, v1, v2, v3, v4] := by cases args; simp_all
  obtain ⟨rfl, rfl⟩ := trodVars_none hV
  simp only [List.append_nil] at hW' hA0
  obtain ⟨_, _, _, _, _, _, _, _, e0, hnX, hnE⟩ := open_net (hval 0 25 v0 rfl rfl) h0
  subst e0
  obtain ⟨_, _, _, _, e1, hairs⟩ := open_airs (hval 1 26 v1 rfl rfl) h1
  subst e1
  obtain ⟨_, _, _, _, e2, harea⟩ := open_ints (hval 2 28 v2 rfl rfl) h2
  subst e2
  obtain ⟨f, e3, _, _, wf⟩ := open_int Try.underlying3 (hval 3 3 v3 rfl rfl) h3
  subst e3
  obtain ⟨u, e4, _, _, wu⟩ := open_int Try.underlying3 (hval 4 3 v4 rfl rfl) h4
  subst e4
  refine (reachWorst_walk f u hnX hnE hairs harea).mono fun e W' ⟨he, hg⟩ => ?_
  subst he
  exact ⟨_, rfl, post_law laid_out (by rw [Try.params5]; intro t ht; simp only [List.mem_cons, List.not_mem_nil, or_false] at ht; rcases ht with rfl | rfl | rfl | rfl | rfl <;> exact ⟨by kernel_rfl, of_decide_eq_true (by kernel_rfl)⟩) rfl hW' hA0 rfl rfl rfl rfl Try.underlying4 hg⟩
theorem reachWorst_over : Rows.reachWorstRow.holds Try.pinned (OpenSpec.ofChange Rows.reachWorstSpec) :=
  OpenClaim.holds_of_wide 5 Try.f5 rfl rfl rfl rfl rfl rfl rfl ⟨rfl, rfl, rfl, rfl, rfl⟩ rfl rfl rfl rfl rfl (by kernel_rfl) Try.func5 (by kernel_rfl)
    (of_decide_eq_true (by kernel_rfl)) (by unfold Func.isWrapper; first | (rw [if_pos (by decide +kernel)]; kernel_rfl) | (rw [if_neg (by decide +kernel)]; exact ⟨rfl, rfl⟩))
    (fun os started H enc _ => reachWorst_lifted os started H enc)
theorem reachWorst_holds : Rows.ReachWorstSaid :=
  reachWorst_over
#print axioms reachWorst_holds
end Go.Proofs.Ytcpnkhiillgffaa
