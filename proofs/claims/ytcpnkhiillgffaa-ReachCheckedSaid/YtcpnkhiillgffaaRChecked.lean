/- For any net, pieces, area, times, need and table: the statement ReachChecked of chapter 33 (a table that Check accepts is no greater than that of the net, and a ship hears as many pieces as needed; the net's own table is accepted from the delay on): the law's function returns true and leaves its arguments as they were. No condition. -/
import Derived.Test.YtcpnkhiillgffaaRhB
import Derived.Test.YtcpnkhiillgffaaRhC
import Derived.Test.YtcpnkhiillgffaaRhF
import Derived.Test.YtcpnkhiillgffaaFrameR
namespace Go.Proofs.Ytcpnkhiillgffaa
open Go.ChangeShapes Go.WideShapes Go.ChangeAt Go.RowKit
attribute [local go_sem] bqOp bqAll bqUpon field_stop0 field_stop1
attribute [local irreducible] wpQuiet wpBQ
set_option linter.unusedVariables false
/-- The net's own table is accepted from the delay on. -/
theorem own_ok {np ne na m : Nat} {X E A Y : Nat → Nat → Int} {f u need dv : Int} (h : delayQ np X ne E na A m Y f u need = (dv, 0)) : checkQ np X ne E na A m Y f dv u need (u - f + 1).toNat (fun _ => np) (tblI X A E na f u ne) = (true, 0) := by
  unfold delayQ at h
  split at h
  · next g =>
    obtain ⟨g1, gY, gn⟩ := g
    have sp := backN_spec (ok := enoughT m Y (tblI X A E na f u ne) need) (u - f + 1).toNat
    obtain ⟨b, hb⟩ : ∃ b, delayB np X ne E na A m Y f u need = b := ⟨_, rfl⟩
    rw [show backN (enoughT m Y (tblI X A E na f u ne) need) (u - f + 1).toNat = b from hb] at sp
    rw [hb] at h
    split at h
    · cases h
    · next hn =>
      have hdv := (Prod.mk.inj h).1
      obtain ⟨⟨hN, hA, t1, t2, t3, t4⟩⟩ := And.intro g1 trivial
      have hE2 : ∀ i, i < ne → 1 ≤ E i 2 := fun i hi => (hN.2.2.2.2 i hi).2.2.2.1
      have na4 := hA.1
      unfold checkQ
      rw [if_pos ⟨g1, gn, gY, by omega, by omega⟩]
      refine Prod.ext (decide_eq_true ⟨⟨by omega, fun t ht => ⟨rfl, fun j hj => ?_⟩⟩, fun t ht => ⟨fun p hp => ?_, fun hs => ?_⟩⟩) rfl
      · have bd := tblN_bd X A E na f ne (u - f + 1).toNat t j
        have hm : (na : Int) * (t : Int) ≤ 400 * 400 := by
          have h1 := Int.mul_le_mul (show (na : Int) ≤ 400 by omega) (show (t : Int) ≤ 400 by omega) (by omega) (by omega)
          exact h1
        exact ⟨Int.le_trans (by omega) bd.1, Int.le_trans bd.2 (by omega)⟩
      · exact Int.le_of_eq (tbl_eq hE2 ht p)
      · exact of_decide_eq_true (sp.2.1 t (by omega) ht)
  · cases h
theorem check_yes {np ne na m nt : Nat} {X E A Y T : Nat → Nat → Int} {len : Nat → Nat} {f s u need : Int} (h : checkQ np X ne E na A m Y f s u need nt len T = (true, 0)) :
    ChkArg np X ne E na A m Y f s u need ∧ (nt : Int) = u - f + 1 ∧ (∀ t, t < nt → len t = np) ∧ (∀ t, t < nt → ∀ p, p < np → T t p ≤ tblN X A E na f ne (u - f + 1).toNat t p) ∧ ∀ t, t < nt → s - f ≤ (t : Int) → EnoughOk m Y (T t) need := by
  unfold checkQ at h
  split at h
  · next g =>
    have hd := of_decide_eq_true (Prod.mk.inj h).1
    exact ⟨g, hd.1.1, fun t ht => (hd.1.2 t ht).1, chk_le (np := np) g.1.1.2.2.2.2 (by have := hd.1.1; omega) (fun t ht p hp => (hd.2 t ht).1 p hp), fun t ht => (hd.2 t ht).2⟩
  · cases h
theorem count_track {np ne na nl : Nat} {X E A L : Nat → Nat → Int} {f cv : Int} (h : countR np X ne E nl L na A f = (cv, 0)) : 1 ≤ nl := by
  rw [countR_eq] at h
  unfold countQ at h
  split at h
  · next g => exact g.1.2.1
  · cases h
theorem check_no {np ne na m nt : Nat} {X E A Y T : Nat → Nat → Int} {len : Nat → Nat} {f s u need : Int} (h : ¬ TblOk np X ne E na A f u) : checkQ np X ne E na A m Y f s u need nt len T = (false, 1) := by
  unfold checkQ
  rw [if_neg fun g => h g.1]
set_option maxRecDepth 100000 in
set_option maxHeartbeats 8000000 in
theorem reachChecked_walk {np c ne c2 na c4 nl c3 m c5 nt ct : Nat} {ad ad2 ad4 ad3 ad5 adt : Option Addr} {X E A L Y T : Nat → Nat → Int} {len : Nat → Nat} (f s u need : Int) {w : World} (hX : Rows 2 w (.slice ad np c) np X) (hE : Rows 4 w (.slice ad2 ne c2) ne E) (hA : Rows 4 w (.slice ad4 na c4) na A) (hL : Rows 2 w (.slice ad3 nl c3) nl L) (hY : Rows 1 w (.slice ad5 m c5) m Y) (hT : Tab w (.slice adt nt ct) nt len T) :
    Calls Try.prog 6 #[.agg #[.slice ad np c, .slice ad2 ne c2], .slice ad4 na c4, .slice ad3 nl c3, .slice ad5 m c5, .int .i64 f, .int .i64 s, .int .i64 u, .int .i64 need, .slice adt nt ct] w fun e w' => e = .returned (.bool true) ∧ Below w.heap.size w w' := by
  have n1 : np ≤ 9223372036854775807 := by obtain ⟨_, _, _, h, _⟩ := hX; exact h
  have n2 : ne ≤ 9223372036854775807 := by obtain ⟨_, _, _, h, _⟩ := hE; exact h
  have n4 : na ≤ 9223372036854775807 := by obtain ⟨_, _, _, h, _⟩ := hA; exact h
  have n3 : nl ≤ 9223372036854775807 := by obtain ⟨_, _, _, h, _⟩ := hL; exact h
  have n5 : m ≤ 9223372036854775807 := by obtain ⟨_, _, _, h, _⟩ := hY; exact h
  have n6 : nt ≤ 9223372036854775807 := by obtain ⟨_, _, _, h, _⟩ := hT; exact h
  have HX := Lib.hid hX
  have HE := Lib.hid hE
  have HA := Lib.hid hA
  have HL := Lib.hid hL
  have HY := Lib.hid hY
  have HT := Lib.hid hT
  clear hX hE hA hL hY hT
  go_enter Try.func6, Try.ntmps6
  go_wp2_with fail
  refine calls_named fun W hW => ?_
  obtain ⟨p1, hB⟩ := box1 hW
  clear hW
  have P1 := Lib.hid p1
  clear p1
  have q1 := cellsL P1.out
  (with_reducible refine (head33_true _).mono ?_)
  rintro e w1 ⟨rfl, hB1⟩
  have hC1 := below_step hB hB1
  go_wp2_with fail
  obtain ⟨vf, hvf⟩ : ∃ v, decide (FewOk np ne na E) = v := ⟨_, rfl⟩
  have Hvf := Lib.hid hvf
  clear hvf
  (with_reducible refine (q33Few_any np c ne c2 na c4 ad ad2 ad4 E _ (HE.out.later hC1) Hvf.out).mono ?_)
  rintro e w2 ⟨rfl, hb2⟩
  have hB2 := below_step hB1 hb2
  have hC2 := below_step hB hB2
  clear hb2
  cases vf
  · go_wp2_with fail
    go_returns
    exact ⟨rfl, hC2⟩
  have FEW : FewOk np ne na E := of_decide_eq_true Hvf.out
  have FW := Lib.hid FEW
  clear FEW Hvf
  by_cases z1 : 20 < nl
  · go_wp2_with fail
    go_returns
    exact ⟨rfl, hC2⟩
  go_wp2_with fail
  obtain ⟨vt, hvt⟩ : ∃ v, decide (0 ≤ f ∧ f ≤ u ∧ u ≤ 10000000 ∧ u - f ≤ 400) = v := ⟨_, rfl⟩
  have Hvt := Lib.hid hvt
  clear hvt
  (with_reducible refine (q33Times_any f u _ Hvt.out).mono ?_)
  rintro e w3 ⟨rfl, hb3⟩
  have hB3 := below_step hB2 hb3
  have hC3 := below_step hB hB3
  clear hb3
  cases vt
  · go_wp2_with fail
    go_returns
    exact ⟨rfl, hC3⟩
  obtain ⟨t1, t2, t3, t4⟩ := of_decide_eq_true Hvt.out
  have TM := Lib.hid (show TimesOk f u from of_decide_eq_true Hvt.out)
  clear Hvt
  by_cases z2 : 60 < u - f
  · go_wp2_with fail
    go_returns
    exact ⟨rfl, hC3⟩
  by_cases z3 : 70 < nt
  · go_wp2_with fail
    go_returns
    exact ⟨rfl, hC3⟩
  go_wp2_with fail
  (with_reducible refine (hTable_all np c ne c2 na c4 ad ad2 ad4 X E A f u _ (HX.out.later hC3) (HE.out.later hC3) (HA.out.later hC3) n1 n2 n4).mono ?_)
  rintro e w4 ⟨ta, tc, rfl, hb4, htab⟩
  have hB4 := below_step hB3 hb4
  have hC4 := below_step hB hB4
  clear hb4
  have TT := Lib.hid htab
  clear htab
  have hT4 := Below.refl w4.heap.size w4
  go_wp2_with fail
  obtain ⟨⟨dv, de⟩, hd⟩ : ∃ r, delayQ np X ne E na A m Y f u need = r := ⟨_, rfl⟩
  have DD := Lib.hid hd
  clear hd
  obtain ⟨⟨kv, ke⟩, hk⟩ : ∃ r, checkQ np X ne E na A m Y f s u need nt len T = r := ⟨_, rfl⟩
  have KK := Lib.hid hk
  clear hk
  (with_reducible refine (hDelay_any np c ne c2 na c4 m c5 ad ad2 ad4 ad5 X E A Y f u need _ (HX.out.later hC4) (HE.out.later hC4) (HA.out.later hC4) (HY.out.later hC4) n1 n2 n4 n5 DD.out).mono ?_)
  rintro e w5 ⟨rfl, hb5⟩
  have hB5 := below_step hB4 hb5
  have hC5 := below_step hB hB5
  have hT5 := below_step hT4 hb5
  clear hb5
  by_cases g : TblOk np X ne E na A f u
  rotate_left
  · have e1 : tabE np X ne E na A f u = 1 := if_neg g
    have e0 := KK.out
    rw [check_no g] at e0
    obtain ⟨rfl, rfl⟩ := Prod.mk.inj e0
    clear e0
    rw [e1]
    clear e1 TT g
    go_wp2_with fail
    (with_reducible refine (hCheck_any np c ne c2 na c4 m c5 nt ct ad ad2 ad4 ad5 adt X E A Y T len f s u need _ (HX.out.later hC5) (HE.out.later hC5) (HA.out.later hC5) (HY.out.later hC5) (HT.out.later hC5) n1 n2 n4 n5 n6 KK.out).mono ?_)
    rintro e w6 ⟨rfl, hb6⟩
    have hB6 := below_step hB5 hb6
    have hC6 := below_step hB hB6
    have hT6 := below_step hT5 hb6
    clear hb6
    go_wp2_with fail
    go_returns
    exact ⟨rfl, hC6⟩
  have e1 : tabE np X ne E na A f u = 0 := if_pos g
  have e2 : tabN np X ne E na A f u = (u - f + 1).toNat := if_pos g
  rw [e1]
  rw [e2]
  rw [e2] at TT
  have G := Lib.hid g
  clear e1 e2 g
  obtain ⟨n, hn⟩ : ∃ n, (u - f + 1).toNat = n := ⟨_, rfl⟩
  have nn : n ≤ 9223372036854775807 := by omega
  rw [hn]
  rw [hn] at TT
  by_cases hde : de = 0
  · subst hde
    have OK := Lib.hid (own_ok DD.out)
    rw [hn] at OK
    go_wp2_with fail
    (with_reducible refine (hCheck_any np c ne c2 na c4 m c5 n tc ad ad2 ad4 ad5 ta X E A Y (tblI X A E na f u ne) (fun _ => np) f dv u need _ (HX.out.later hC5) (HE.out.later hC5) (HA.out.later hC5) (HY.out.later hC5) (TT.out.later hT5) n1 n2 n4 n5 nn OK.out).mono ?_)
    rintro e w6 ⟨rfl, hb6⟩
    have hB6 := below_step hB5 hb6
    have hC6 := below_step hB hB6
    have hT6 := below_step hT5 hb6
    clear hb6
    go_wp2_with fail
    (with_reducible refine (hCheck_any np c ne c2 na c4 m c5 nt ct ad ad2 ad4 ad5 adt X E A Y T len f s u need _ (HX.out.later hC6) (HE.out.later hC6) (HA.out.later hC6) (HY.out.later hC6) (HT.out.later hC6) n1 n2 n4 n5 n6 KK.out).mono ?_)
    rintro e w7 ⟨rfl, hb7⟩
    have hB7 := below_step hB6 hb7
    have hC7 := below_step hB hB7
    have hT7 := below_step hT6 hb7
    clear hb7
    by_cases hke : ke = 0
    rotate_left
    · have d1 : (ke != 0) = true := by simp [hke]
      go_wp2_with fail
      go_returns
      exact ⟨rfl, hC7⟩
    subst hke
    cases kv
    · go_wp2_with fail
      go_returns
      exact ⟨rfl, hC7⟩
    obtain ⟨ca, cn, cl, ct1, cen⟩ := check_yes KK.out
    rw [hn] at ct1
    obtain rfl : nt = n := by omega
    have CA := Lib.hid ca
    have CLE := Lib.hid ct1
    have CLN := Lib.hid cl
    have CEN := Lib.hid cen
    have CNT := Lib.hid cn
    have HN := Lib.hid hn
    clear ca cl ct1 cen cn hn
    go_wp2_with fail
    go_loopw [131] (fun i wr => ∃ k : Nat, k ≤ nt ∧ i = .int .i64 k ∧ Below w7.heap.size w7 wr) (fun i _ => nt - (intOf i).toNat)
    case atStart => exact ⟨0, by omega, rfl, Below.refl _ _⟩
    case round =>
      obtain ⟨k, hk, rfl, hbr⟩ := hrel
      have hB8 := below_step hB7 hbr
      have hC8 := below_step hC7 hbr
      have hT8 := below_step hT7 hbr
      by_cases hlt : k < nt
      · obtain ⟨g1, o1, a1, k1, rfl, hc1, hl1, hr1⟩ := HT.out.row hlt
        obtain ⟨g2, o2, a2, k2, rfl, hc2, hl2, hr2⟩ := TT.out.row hlt
        rw [CLN.out k hlt] at hc1 hr1
        have D1 := Lib.hid hc1
        have D2 := Lib.hid hc2
        have R1 := Lib.hid hr1
        have R2 := Lib.hid hr2
        clear hc1 hc2 hr1 hr2
        have q3 := cell_later hC8 D1.out
        go_wp2_with fail
        clear q3
        go_loopw [139] (fun i ws => ∃ j : Nat, j ≤ np ∧ i = .int .i64 j ∧ Below wr.heap.size wr ws) (fun i _ => np - (intOf i).toNat)
        case atStart => exact ⟨0, by omega, rfl, Below.refl _ _⟩
        case round =>
          obtain ⟨j, hj, rfl, hbs⟩ := hrel
          have hCs := below_step hC8 hbs
          have hTs := below_step hT8 hbs
          have hbt := below_step hbr hbs
          by_cases hjt : j < np
          rotate_left
          · obtain rfl : j = np := by omega
            go_wp2_with fail
            go_roundw
            case rel => exact ⟨k + 1, by omega, by go_num, hbt⟩
            case measure => simp [intOf]; omega
          obtain ⟨g3, o3, rfl, hc3⟩ := R1.out.int hjt
          obtain ⟨g4, o4, rfl, hc4⟩ := R2.out.int hjt
          have hle := CLE.out k hlt j hjt
          unfold tblI at hc4
          rw [HN.out] at hc4
          obtain ⟨y1, f1⟩ : ∃ y1, T k j = y1 := ⟨_, rfl⟩
          obtain ⟨y2, f2⟩ : ∃ y2, tblN X A E na f ne nt k j = y2 := ⟨_, rfl⟩
          rw [f1] at hc3 hle
          rw [f2] at hc4 hle
          have D3 := Lib.hid hc3
          have D4 := Lib.hid hc4
          clear hc3 hc4 f1 f2
          go_wp2_with fail
          have q3 := fun d os => cell_later (below_regrown _ d os) (cell_later hCs D1.out)
          have q4 := fun d os => cell_later (below_regrown _ d os) (cell_later hTs D2.out)
          have q5 := fun d os => cell_later (below_regrown _ d os) (cell_later hCs D3.out)
          have q6 := fun d os => cell_later (below_regrown _ d os) (cell_later hTs D4.out)
          (refine wp_region_quiet_below (by kernel_rfl) (by kernel_rfl) ?_; (repeat (refine wpQuiet_step (fun K hK => ?_); replace hK := Lib.hid hK; go_simp; first | (refine hK.out _ ?_; clear hK K) | (apply Exists.intro; refine ⟨fun _ => ?_, hK.out _ ?_⟩; (fail); clear hK K))); refine wpQuiet_nil ?_)
          intro w9 hr9
          have hb9 := below_step hbs (regrown_below hr9)
          clear hr9 q3 q4 q5 q6
          go_wp2_with fail
          go_roundw
          case rel => exact ⟨j + 1, by omega, by go_num, hb9⟩
          case measure => simp [intOf]; omega
      obtain rfl : k = nt := by omega
      obtain ⟨w8, rfl⟩ : ∃ w', w' = wr := ⟨_, rfl⟩
      obtain ⟨⟨cv, ce⟩, hc⟩ : ∃ r, countR np X ne E nl L na A f = r := ⟨_, rfl⟩
      have CC := Lib.hid hc
      clear hc TT hbr
      go_wp2_with fail
      (with_reducible refine (hCount_any np c ne c2 na c4 nl c3 ad ad2 ad4 ad3 X E A L f _ (HX.out.later hC8) (HE.out.later hC8) (HA.out.later hC8) (HL.out.later hC8) n1 n2 n3 n4 CC.out).mono ?_)
      rintro e w9 ⟨rfl, hb9⟩
      have hB9 := below_step hB8 hb9
      have hC9 := below_step hB hB9
      clear hb9
      by_cases hce : ce = 0
      rotate_left
      · have d1 : (ce != 0) = true := by simp [hce]
        go_wp2_with fail
        go_returns
        exact ⟨rfl, hC9⟩
      subst hce
      have nl1 : 1 ≤ nl := count_track CC.out
      have d0 : ((nl : Int) == 0) = false := by simp; omega
      obtain ⟨g, o, rfl, hcl⟩ := HL.out.row (show 0 < nl by omega)
      have c1 := hcl 1 (by omega)
      simp only [Nat.zero_mul, Nat.add_zero] at c1
      clear hcl
      obtain ⟨l0, hl0⟩ : ∃ x, L 0 1 = x := ⟨_, rfl⟩
      obtain ⟨pa, hpa⟩ : ∃ x, L (nl - 1) 0 = x := ⟨_, rfl⟩
      obtain ⟨tb, htb⟩ : ∃ x, L (nl - 1) 1 = x := ⟨_, rfl⟩
      rw [hl0] at c1
      replace c1 := cell_later hC9 c1
      have FA := least_fact TM.out CC.out
      rw [hl0, hpa, htb, HN.out] at FA
      replace FA := Lib.hid FA
      have PA := Lib.hid hpa
      have TB := Lib.hid htb
      clear hpa htb hl0
      by_cases z3 : f < l0
      · go_wp2_with fail
        go_returns
        exact ⟨rfl, hC9⟩
      go_wp2_with fail
      clear c1
      (with_reducible refine (l33ends_any nl c3 _ L _ (HL.out.later hC9) (by omega) PA.out TB.out).mono ?_)
      rintro e w10 ⟨rfl, hb10⟩
      have hB10 := below_step hB9 hb10
      have hC10 := below_step hB hB10
      clear hb10
      by_cases z4 : tb < s
      · go_wp2_with fail
        go_returns
        exact ⟨rfl, hC10⟩
      go_wp2_with fail
      (with_reducible refine (l33ends_any nl c3 _ L _ (HL.out.later hC10) (by omega) PA.out TB.out).mono ?_)
      rintro e w11 ⟨rfl, hb11⟩
      have hB11 := below_step hB10 hb11
      have hC11 := below_step hB hB11
      clear hb11
      by_cases z5 : u < tb
      · go_wp2_with fail
        go_returns
        exact ⟨rfl, hC11⟩
      have KEY : Hid (∀ i, i < m → Y i 0 = pa → need ≤ cv) := Lib.hid (fun i hi e => by
        have a0 := CA.out.2.2.2
        have cn := CNT.out
        obtain ⟨⟨f1, f2⟩, f3⟩ := FA.out (by omega) (by omega) (by omega)
        have h1 := CEN.out (tb - f).toNat (by omega) (by omega) i hi
        rw [e] at h1
        have h2 := CLE.out (tb - f).toNat (by omega) pa.toNat (by omega)
        omega)
      clear CA CEN CLE FA
      go_wp2_with fail
      go_loopw [19, 214] (fun v19 i ws => ∃ k : Nat, k ≤ m ∧ v19 = .bool true ∧ i = .int .i64 k ∧ Below w11.heap.size w11 ws) (fun _ i _ => m - (intOf i).toNat)
      case atStart => exact ⟨0, by omega, rfl, rfl, Below.refl _ _⟩
      case round =>
        obtain ⟨k, hk, rfl, rfl, hbs⟩ := hrel
        have hCs := below_step hC11 hbs
        by_cases hlt : k < m
        rotate_left
        · obtain rfl : k = m := by omega
          go_wp2_with fail
          go_returns
          exact ⟨rfl, hCs⟩
        obtain ⟨g3, o3, rfl, hc3⟩ := HY.out.int hlt
        obtain ⟨y, hy⟩ : ∃ y, Y k 0 = y := ⟨_, rfl⟩
        have KK := fun h => KEY.out k hlt (hy.trans h)
        rw [hy] at hc3
        have D3 := Lib.hid hc3
        clear hc3 hy
        have q3 := cell_later hCs D3.out
        by_cases hyp : y = pa
        · subst hyp
          have KL := KK rfl
          go_wp2_with fail
          clear q3
          (with_reducible refine (l33ends_any nl c3 _ L _ (HL.out.later hCs) (by omega) PA.out TB.out).mono ?_)
          rintro e we ⟨rfl, hbe⟩
          have hbt := below_step hbs hbe
          clear hbs hbe hCs
          go_wp2_with fail
          go_roundw
          case rel => exact ⟨k + 1, by omega, rfl, by go_num, hbt⟩
          case measure => simp [intOf]; omega
        · have d3 : (y != pa) = true := by simp [hyp]
          go_wp2_with fail
          clear q3
          (with_reducible refine (l33ends_any nl c3 _ L _ (HL.out.later hCs) (by omega) PA.out TB.out).mono ?_)
          rintro e we ⟨rfl, hbe⟩
          have hbt := below_step hbs hbe
          clear hbs hbe hCs
          go_wp2_with fail
          go_roundw
          case rel => exact ⟨k + 1, by omega, rfl, by go_num, hbt⟩
          case measure => simp [intOf]; omega
  have d1 : (de == 0) = false := by simp [hde]
  go_wp2_with fail
  (with_reducible refine (hCheck_any np c ne c2 na c4 m c5 nt ct ad ad2 ad4 ad5 adt X E A Y T len f s u need _ (HX.out.later hC5) (HE.out.later hC5) (HA.out.later hC5) (HY.out.later hC5) (HT.out.later hC5) n1 n2 n4 n5 n6 KK.out).mono ?_)
  rintro e w6 ⟨rfl, hb6⟩
  have hB6 := below_step hB5 hb6
  have hC6 := below_step hB hB6
  have hT6 := below_step hT5 hb6
  clear hb6
  by_cases hke : ke = 0
  rotate_left
  · have d1 : (ke != 0) = true := by simp [hke]
    go_wp2_with fail
    go_returns
    exact ⟨rfl, hC6⟩
  subst hke
  cases kv
  · go_wp2_with fail
    go_returns
    exact ⟨rfl, hC6⟩
  obtain ⟨ca, cn, cl, ct1, cen⟩ := check_yes KK.out
  rw [hn] at ct1
  obtain rfl : nt = n := by omega
  have CA := Lib.hid ca
  have CLE := Lib.hid ct1
  have CLN := Lib.hid cl
  have CEN := Lib.hid cen
  have CNT := Lib.hid cn
  have HN := Lib.hid hn
  clear ca cl ct1 cen cn hn
  go_wp2_with fail
  go_loopw [131] (fun i wr => ∃ k : Nat, k ≤ nt ∧ i = .int .i64 k ∧ Below w6.heap.size w6 wr) (fun i _ => nt - (intOf i).toNat)
  case atStart => exact ⟨0, by omega, rfl, Below.refl _ _⟩
  case round =>
    obtain ⟨k, hk, rfl, hbr⟩ := hrel
    have hB7 := below_step hB6 hbr
    have hC7 := below_step hC6 hbr
    have hT7 := below_step hT6 hbr
    by_cases hlt : k < nt
    · obtain ⟨g1, o1, a1, k1, rfl, hc1, hl1, hr1⟩ := HT.out.row hlt
      obtain ⟨g2, o2, a2, k2, rfl, hc2, hl2, hr2⟩ := TT.out.row hlt
      rw [CLN.out k hlt] at hc1 hr1
      have D1 := Lib.hid hc1
      have D2 := Lib.hid hc2
      have R1 := Lib.hid hr1
      have R2 := Lib.hid hr2
      clear hc1 hc2 hr1 hr2
      have q3 := cell_later hC7 D1.out
      go_wp2_with fail
      clear q3
      go_loopw [139] (fun i ws => ∃ j : Nat, j ≤ np ∧ i = .int .i64 j ∧ Below wr.heap.size wr ws) (fun i _ => np - (intOf i).toNat)
      case atStart => exact ⟨0, by omega, rfl, Below.refl _ _⟩
      case round =>
        obtain ⟨j, hj, rfl, hbs⟩ := hrel
        have hCs := below_step hC7 hbs
        have hTs := below_step hT7 hbs
        have hbt := below_step hbr hbs
        by_cases hjt : j < np
        rotate_left
        · obtain rfl : j = np := by omega
          go_wp2_with fail
          go_roundw
          case rel => exact ⟨k + 1, by omega, by go_num, hbt⟩
          case measure => simp [intOf]; omega
        obtain ⟨g3, o3, rfl, hc3⟩ := R1.out.int hjt
        obtain ⟨g4, o4, rfl, hc4⟩ := R2.out.int hjt
        have hle := CLE.out k hlt j hjt
        unfold tblI at hc4
        rw [HN.out] at hc4
        obtain ⟨y1, f1⟩ : ∃ y1, T k j = y1 := ⟨_, rfl⟩
        obtain ⟨y2, f2⟩ : ∃ y2, tblN X A E na f ne nt k j = y2 := ⟨_, rfl⟩
        rw [f1] at hc3 hle
        rw [f2] at hc4 hle
        have D3 := Lib.hid hc3
        have D4 := Lib.hid hc4
        clear hc3 hc4 f1 f2
        go_wp2_with fail
        have q3 := fun d os => cell_later (below_regrown _ d os) (cell_later hCs D1.out)
        have q4 := fun d os => cell_later (below_regrown _ d os) (cell_later hTs D2.out)
        have q5 := fun d os => cell_later (below_regrown _ d os) (cell_later hCs D3.out)
        have q6 := fun d os => cell_later (below_regrown _ d os) (cell_later hTs D4.out)
        (refine wp_region_quiet_below (by kernel_rfl) (by kernel_rfl) ?_; (repeat (refine wpQuiet_step (fun K hK => ?_); replace hK := Lib.hid hK; go_simp; first | (refine hK.out _ ?_; clear hK K) | (apply Exists.intro; refine ⟨fun _ => ?_, hK.out _ ?_⟩; (fail); clear hK K))); refine wpQuiet_nil ?_)
        intro w9 hr9
        have hb9 := below_step hbs (regrown_below hr9)
        clear hr9 q3 q4 q5 q6
        go_wp2_with fail
        go_roundw
        case rel => exact ⟨j + 1, by omega, by go_num, hb9⟩
        case measure => simp [intOf]; omega
    obtain rfl : k = nt := by omega
    obtain ⟨w7, rfl⟩ : ∃ w', w' = wr := ⟨_, rfl⟩
    obtain ⟨⟨cv, ce⟩, hc⟩ : ∃ r, countR np X ne E nl L na A f = r := ⟨_, rfl⟩
    have CC := Lib.hid hc
    clear hc TT hbr
    go_wp2_with fail
    (with_reducible refine (hCount_any np c ne c2 na c4 nl c3 ad ad2 ad4 ad3 X E A L f _ (HX.out.later hC7) (HE.out.later hC7) (HA.out.later hC7) (HL.out.later hC7) n1 n2 n3 n4 CC.out).mono ?_)
    rintro e w8 ⟨rfl, hb8⟩
    have hB8 := below_step hB7 hb8
    have hC8 := below_step hB hB8
    clear hb8
    by_cases hce : ce = 0
    rotate_left
    · have d1 : (ce != 0) = true := by simp [hce]
      go_wp2_with fail
      go_returns
      exact ⟨rfl, hC8⟩
    subst hce
    have nl1 : 1 ≤ nl := count_track CC.out
    have d0 : ((nl : Int) == 0) = false := by simp; omega
    obtain ⟨g, o, rfl, hcl⟩ := HL.out.row (show 0 < nl by omega)
    have c1 := hcl 1 (by omega)
    simp only [Nat.zero_mul, Nat.add_zero] at c1
    clear hcl
    obtain ⟨l0, hl0⟩ : ∃ x, L 0 1 = x := ⟨_, rfl⟩
    obtain ⟨pa, hpa⟩ : ∃ x, L (nl - 1) 0 = x := ⟨_, rfl⟩
    obtain ⟨tb, htb⟩ : ∃ x, L (nl - 1) 1 = x := ⟨_, rfl⟩
    rw [hl0] at c1
    replace c1 := cell_later hC8 c1
    have FA := least_fact TM.out CC.out
    rw [hl0, hpa, htb, HN.out] at FA
    replace FA := Lib.hid FA
    have PA := Lib.hid hpa
    have TB := Lib.hid htb
    clear hpa htb hl0
    by_cases z3 : f < l0
    · go_wp2_with fail
      go_returns
      exact ⟨rfl, hC8⟩
    go_wp2_with fail
    clear c1
    (with_reducible refine (l33ends_any nl c3 _ L _ (HL.out.later hC8) (by omega) PA.out TB.out).mono ?_)
    rintro e w9 ⟨rfl, hb9⟩
    have hB9 := below_step hB8 hb9
    have hC9 := below_step hB hB9
    clear hb9
    by_cases z4 : tb < s
    · go_wp2_with fail
      go_returns
      exact ⟨rfl, hC9⟩
    go_wp2_with fail
    (with_reducible refine (l33ends_any nl c3 _ L _ (HL.out.later hC9) (by omega) PA.out TB.out).mono ?_)
    rintro e w10 ⟨rfl, hb10⟩
    have hB10 := below_step hB9 hb10
    have hC10 := below_step hB hB10
    clear hb10
    by_cases z5 : u < tb
    · go_wp2_with fail
      go_returns
      exact ⟨rfl, hC10⟩
    have KEY : Hid (∀ i, i < m → Y i 0 = pa → need ≤ cv) := Lib.hid (fun i hi e => by
      have a0 := CA.out.2.2.2
      have cn := CNT.out
      obtain ⟨⟨f1, f2⟩, f3⟩ := FA.out (by omega) (by omega) (by omega)
      have h1 := CEN.out (tb - f).toNat (by omega) (by omega) i hi
      rw [e] at h1
      have h2 := CLE.out (tb - f).toNat (by omega) pa.toNat (by omega)
      omega)
    clear CA CEN CLE FA
    go_wp2_with fail
    go_loopw [19, 214] (fun v19 i ws => ∃ k : Nat, k ≤ m ∧ v19 = .bool true ∧ i = .int .i64 k ∧ Below w10.heap.size w10 ws) (fun _ i _ => m - (intOf i).toNat)
    case atStart => exact ⟨0, by omega, rfl, rfl, Below.refl _ _⟩
    case round =>
      obtain ⟨k, hk, rfl, rfl, hbs⟩ := hrel
      have hCs := below_step hC10 hbs
      by_cases hlt : k < m
      rotate_left
      · obtain rfl : k = m := by omega
        go_wp2_with fail
        go_returns
        exact ⟨rfl, hCs⟩
      obtain ⟨g3, o3, rfl, hc3⟩ := HY.out.int hlt
      obtain ⟨y, hy⟩ : ∃ y, Y k 0 = y := ⟨_, rfl⟩
      have KK := fun h => KEY.out k hlt (hy.trans h)
      rw [hy] at hc3
      have D3 := Lib.hid hc3
      clear hc3 hy
      have q3 := cell_later hCs D3.out
      by_cases hyp : y = pa
      · subst hyp
        have KL := KK rfl
        go_wp2_with fail
        clear q3
        (with_reducible refine (l33ends_any nl c3 _ L _ (HL.out.later hCs) (by omega) PA.out TB.out).mono ?_)
        rintro e we ⟨rfl, hbe⟩
        have hbt := below_step hbs hbe
        clear hbs hbe hCs
        go_wp2_with fail
        go_roundw
        case rel => exact ⟨k + 1, by omega, rfl, by go_num, hbt⟩
        case measure => simp [intOf]; omega
      · have d3 : (y != pa) = true := by simp [hyp]
        go_wp2_with fail
        clear q3
        (with_reducible refine (l33ends_any nl c3 _ L _ (HL.out.later hCs) (by omega) PA.out TB.out).mono ?_)
        rintro e we ⟨rfl, hbe⟩
        have hbt := below_step hbs hbe
        clear hbs hbe hCs
        go_wp2_with fail
        go_roundw
        case rel => exact ⟨k + 1, by omega, rfl, by go_num, hbt⟩
        case measure => simp [intOf]; omega
set_option maxRecDepth 100000 in
theorem reachChecked_lifted (os : Os) (started : os.Started) (H : Type) (enc : TypeId × Value → H) :
    ReturnsInHanded {} Try.checked os 6 .any (Rows.reachCheckedSpec.pre6 enc Try.prog Try.f6 Rows.reachCheckedRow.domain false) (Rows.reachCheckedSpec.post enc Try.prog Try.f6 false true false false) := by
  refine returnsInHanded_of_change (C := Try.checked) own_knob started (by kernel_rfl) Try.func6
    (ChangeSpec.witness6 (enc := enc) (C := Try.checked) false ⟨#[], #[.agg #[.slice none 0 0, .slice none 0 0], .slice none 0 0, .slice none 0 0, .slice none 0 0, .int .i64 0, .int .i64 0, .int .i64 0, .int .i64 0, .slice none 0 0], []⟩ 8 (by kernel_rfl) (by kernel_rfl) (by kernel_rfl) (by kernel_rfl)) ?_
  intro W base args ds gs before hval0 hW hcnd _
  have hval : ∀ (j : Nat) t v, Try.f6.params[j]? = some t → args[j]? = some v → Value.okWide Try.prog W .any base t v := hval0
  have hW' := hW
  obtain ⟨p, q, hA0, hV, rfl, hfz, hnd⟩ := hW
  have hA : DataW.TrodAll enc Try.prog W 0 (fun _ => true) true Try.f6.params.toList args.toList ds p := hA0
  rw [Try.params6] at hA hval
  obtain ⟨v0, vs0, d0, ds0, p0, q0, hargs, rfl, rfl, h0, r0⟩ := trodAll_cons hA
  obtain ⟨v1, vs1, d1, ds1, p1, q1, rfl, rfl, rfl, h1, r1⟩ := trodAll_cons r0
  obtain ⟨v2, vs2, d2, ds2, p2, q2, rfl, rfl, rfl, h2, r2⟩ := trodAll_cons r1
  obtain ⟨v3, vs3, d3, ds3, p3, q3, rfl, rfl, rfl, h3, r3⟩ := trodAll_cons r2
  obtain ⟨v4, vs4, d4, ds4, p4, q4, rfl, rfl, rfl, h4, r4⟩ := trodAll_cons r3
  obtain ⟨v5, vs5, d5, ds5, p5, q5, rfl, rfl, rfl, h5, r5⟩ := trodAll_cons r4
  obtain ⟨v6, vs6, d6, ds6, p6, q6, rfl, rfl, rfl, h6, r6⟩ := trodAll_cons r5
  obtain ⟨v7, vs7, d7, ds7, p7, q7, rfl, rfl, rfl, h7, r7⟩ := trodAll_cons r6
  obtain ⟨v8, vs8, d8, ds8, p8, q8, rfl, rfl, rfl, h8, r8⟩ := trodAll_cons r7
  obtain ⟨rfl, rfl, rfl⟩ := trodAll_nil r8
  obtain rfl : args = #[v0, v1, v2, v3, v4, v5, v6, v7, v8] := by cases args; simp_all
  obtain ⟨rfl, rfl⟩ := trodVars_none hV
  simp only [List.append_nil] at hW' hA0
  obtain ⟨_, _, _, _, _, _, _, _, e0, hnX, hnE⟩ := open_net (hval 0 25 v0 rfl rfl) h0
  subst e0
  obtain ⟨_, _, _, _, e1, hairs⟩ := open_airs (hval 1 26 v1 rfl rfl) h1
  subst e1
  obtain ⟨_, _, _, _, e2, hlist⟩ := open_stops (hval 2 27 v2 rfl rfl) h2
  subst e2
  obtain ⟨_, _, _, _, e3, harea⟩ := open_ints (hval 3 28 v3 rfl rfl) h3
  subst e3
  obtain ⟨f, e4, _, _, wf⟩ := open_int Try.underlying3 (hval 4 3 v4 rfl rfl) h4
  subst e4
  obtain ⟨s, e5, _, _, ws⟩ := open_int Try.underlying3 (hval 5 3 v5 rfl rfl) h5
  subst e5
  obtain ⟨u, e6, _, _, wu⟩ := open_int Try.underlying3 (hval 6 3 v6 rfl rfl) h6
  subst e6
  obtain ⟨need, e7, _, _, wneed⟩ := open_int Try.underlying3 (hval 7 3 v7 rfl rfl) h7
  subst e7
  obtain ⟨_, _, _, _, _, e8, htable⟩ := open_tab (hval 8 29 v8 rfl rfl) h8
  subst e8
  refine (reachChecked_walk f s u need hnX hnE hairs hlist harea htable).mono fun e W' ⟨he, hg⟩ => ?_
  subst he
  exact ⟨_, rfl, post_law laid_out (by rw [Try.params6]; intro t ht; simp only [List.mem_cons, List.not_mem_nil, or_false] at ht; rcases ht with rfl | rfl | rfl | rfl | rfl | rfl | rfl | rfl | rfl <;> exact ⟨by kernel_rfl, of_decide_eq_true (by kernel_rfl)⟩) rfl hW' hA0 rfl rfl rfl rfl Try.underlying4 hg⟩
theorem reachChecked_over : Rows.reachCheckedRow.holds Try.pinned (OpenSpec.ofChange Rows.reachCheckedSpec) :=
  OpenClaim.holds_of_wide 6 Try.f6 rfl rfl rfl rfl rfl rfl rfl ⟨rfl, rfl, rfl, rfl, rfl⟩ rfl rfl rfl rfl rfl (by kernel_rfl) Try.func6 (by kernel_rfl)
    (of_decide_eq_true (by kernel_rfl)) (by unfold Func.isWrapper; first | (rw [if_pos (by decide +kernel)]; kernel_rfl) | (rw [if_neg (by decide +kernel)]; exact ⟨rfl, rfl⟩))
    (fun os started H enc _ => reachChecked_lifted os started H enc)
theorem reachChecked_holds : Rows.ReachCheckedSaid :=
  reachChecked_over
#print axioms reachChecked_holds
end Go.Proofs.Ytcpnkhiillgffaa
