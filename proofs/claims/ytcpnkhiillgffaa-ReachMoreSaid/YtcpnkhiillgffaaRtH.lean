/- The walk of Check. -/
import Derived.Test.YtcpnkhiillgffaaRtG
namespace Go.Proofs.Ytcpnkhiillgffaa
open Go.RowKit
attribute [local go_sem] bqOp bqAll bqUpon
attribute [local irreducible] wpQuiet wpBQ
set_option linter.unusedVariables false
set_option maxRecDepth 100000 in
set_option maxHeartbeats 4000000 in
theorem hCheck_any (np c ne c2 na c4 m c3 nt ct : Nat) (ad ad2 ad4 ad3 adt : Option Addr) (X E A Y T : Nat → Nat → Int) (len : Nat → Nat) (f s u need : Int) (w : World) (hX : Rows 2 w (.slice ad np c) np X) (hE : Rows 4 w (.slice ad2 ne c2) ne E) (hA : Rows 4 w (.slice ad4 na c4) na A) (hY : Rows 1 w (.slice ad3 m c3) m Y) (hT : Tab w (.slice adt nt ct) nt len T) (hn1 : np ≤ 9223372036854775807) (hn2 : ne ≤ 9223372036854775807) (hn4 : na ≤ 9223372036854775807) (hn3 : m ≤ 9223372036854775807) (hnt : nt ≤ 9223372036854775807) {v : Bool} {e : Int} (hr : checkQ np X ne E na A m Y f s u need nt len T = (v, e)) :
    Calls Try.prog 27 #[.agg #[.slice ad np c, .slice ad2 ne c2], .slice ad4 na c4, .slice ad3 m c3, .int .i64 f, .int .i64 s, .int .i64 u, .int .i64 need, .slice adt nt ct] w fun z w' => z = .returned (.tuple #[.bool v, .int .i64 e]) ∧ Below w.heap.size w w' := by
  unfold checkQ at hr
  have HX := Lib.hid hX
  have HE := Lib.hid hE
  have HA := Lib.hid hA
  have HY := Lib.hid hY
  have HT := Lib.hid hT
  have RR := Lib.hid hr
  clear hX hE hA hY hT hr
  obtain ⟨v1, gv1⟩ : ∃ v1, decide (NetOk np X ne E) = v1 := ⟨_, rfl⟩
  have V1 := Lib.hid gv1
  clear gv1
  obtain ⟨v2, gv2⟩ : ∃ v2, decide (AirsOk na A) = v2 := ⟨_, rfl⟩
  have V2 := Lib.hid gv2
  clear gv2
  obtain ⟨v3, gv3⟩ : ∃ v3, decide (0 ≤ f ∧ f ≤ u ∧ u ≤ 10000000 ∧ u - f ≤ 400) = v3 := ⟨_, rfl⟩
  have V3 := Lib.hid gv3
  clear gv3
  obtain ⟨v4, gv4⟩ : ∃ v4, decide (0 ≤ need ∧ need ≤ 400) = v4 := ⟨_, rfl⟩
  have V4 := Lib.hid gv4
  clear gv4
  obtain ⟨v5, gv5⟩ : ∃ v5, decide (AreaOk np m Y) = v5 := ⟨_, rfl⟩
  have V5 := Lib.hid gv5
  clear gv5
  obtain ⟨v6, gv6⟩ : ∃ v6, decide (f ≤ s) = v6 := ⟨_, rfl⟩
  have V6 := Lib.hid gv6
  clear gv6
  obtain ⟨v7, gv7⟩ : ∃ v7, decide (s ≤ u) = v7 := ⟨_, rfl⟩
  have V7 := Lib.hid gv7
  clear gv7
  obtain ⟨v8, gv8⟩ : ∃ v8, decide (ShapedOk nt (u - f + 1) np len T) = v8 := ⟨_, rfl⟩
  have V8 := Lib.hid gv8
  clear gv8
  go_enter Try.func27, Try.ntmps27
  go_wp2_with fail
  refine calls_named fun W hW => ?_
  obtain ⟨p1, hB⟩ := box1 hW
  clear hW
  have q1 := cellsL p1
  have hB0 := Below.refl W.heap.size W
  have P1 := Lib.hid p1
  clear p1
  (with_reducible refine (hValid_any _ _ _ _ _ _ _ _ _ (HX.out.later hB) (HE.out.later hB) hn1 hn2 V1.out).mono ?_)
  rintro z w1 ⟨rfl, hb1⟩
  have hB1 := below_step hB0 hb1
  cases v1
  · have h := RR.out
    rw [if_neg (fun h => of_decide_eq_false V1.out h.1.1)] at h
    cases h
    clear RR
    go_wp2_with fail
    go_ret2
    exact ⟨rfl, below_step hB hB1⟩
  go_wp2_with fail
  (with_reducible refine (hAreAirs_any _ _ _ _ _ (HA.out.later (below_step hB hB1)) hn4 V2.out).mono ?_)
  rintro z w2 ⟨rfl, hb2⟩
  have hB2 := below_step hB1 hb2
  cases v2
  · have h := RR.out
    rw [if_neg (fun h => of_decide_eq_false V2.out h.1.2.1)] at h
    cases h
    clear RR
    go_wp2_with fail
    go_ret2
    exact ⟨rfl, below_step hB hB2⟩
  go_wp2_with fail
  (with_reducible refine (hIsTimes_any _ _ _ V3.out).mono ?_)
  rintro z w3 ⟨rfl, hb3⟩
  have hB3 := below_step hB2 hb3
  cases v3
  · have h := RR.out
    rw [if_neg (fun h => of_decide_eq_false V3.out h.1.2.2)] at h
    cases h
    clear RR
    go_wp2_with fail
    go_ret2
    exact ⟨rfl, below_step hB hB3⟩
  go_wp2_with fail
  (with_reducible refine (hIsArea_any _ _ _ _ _ _ _ _ _ _ _ (HY.out.later (below_step hB hB3)) hn1 hn3 V5.out).mono ?_)
  rintro z w4 ⟨rfl, hb4⟩
  have hB4 := below_step hB3 hb4
  cases v5
  · have h := RR.out
    rw [if_neg (fun h => of_decide_eq_false V5.out h.2.2.1)] at h
    cases h
    clear RR
    go_wp2_with fail
    go_ret2
    exact ⟨rfl, below_step hB hB4⟩
  cases v6
  · have h := RR.out
    rw [if_neg (fun h => of_decide_eq_false V6.out h.2.2.2.1)] at h
    cases h
    clear RR
    have hlt : s < f := by have := of_decide_eq_false V6.out; omega
    go_wp2_with fail
    go_ret2
    exact ⟨rfl, below_step hB hB4⟩
  have f6 := of_decide_eq_true V6.out
  have d6 : decide (s < f) = false := by simp; omega
  cases v7
  · have h := RR.out
    rw [if_neg (fun h => of_decide_eq_false V7.out h.2.2.2.2)] at h
    cases h
    clear RR
    have hlt : u < s := by have := of_decide_eq_false V7.out; omega
    go_wp2_with fail
    go_ret2
    exact ⟨rfl, below_step hB hB4⟩
  have f7 := of_decide_eq_true V7.out
  have d7 : decide (u < s) = false := by simp; omega
  go_wp2_with fail
  (with_reducible refine (hIsNeed_any _ _ V4.out).mono ?_)
  rintro z w5 ⟨rfl, hb5⟩
  have hB5 := below_step hB4 hb5
  cases v4
  · have h := RR.out
    rw [if_neg (fun h => of_decide_eq_false V4.out h.2.1)] at h
    cases h
    clear RR
    go_wp2_with fail
    go_ret2
    exact ⟨rfl, below_step hB hB5⟩
  have h := RR.out
  rw [if_pos ⟨⟨of_decide_eq_true V1.out, of_decide_eq_true V2.out, of_decide_eq_true V3.out⟩, of_decide_eq_true V4.out, of_decide_eq_true V5.out, f6, f7⟩] at h
  obtain ⟨hv, rfl⟩ := Prod.mk.inj h
  have HV := Lib.hid hv
  clear h hv RR d6 d7
  obtain ⟨t1, t2, t3, t4⟩ := of_decide_eq_true V3.out
  have G1 := Lib.hid (of_decide_eq_true V1.out)
  have G2 := Lib.hid (of_decide_eq_true V2.out)
  have G3 := Lib.hid (show TimesOk f u from of_decide_eq_true V3.out)
  have np1 := G1.out.1
  have np2 := G1.out.2.1
  have na4 := G2.out.1
  have YA : Hid (∀ i, i < m → 0 ≤ Y i 0 ∧ Y i 0 < (np : Int)) := Lib.hid (fun i hi => (of_decide_eq_true V5.out i hi).1)
  obtain ⟨nr, hnr⟩ : ∃ nr : Nat, u - f + 1 = (nr : Int) := ⟨(u - f + 1).toNat, by omega⟩
  have NR := Lib.hid hnr
  have j1 : IntKind.i64.wrap (u - f) = u - f := IntWalk.i64_in _ (by omega)
  have j2 : IntKind.i64.wrap (u - f + 1) = (nr : Int) := by rw [IntWalk.i64_in _ (by omega)]; exact hnr
  clear hnr
  by_cases hlen : nt = nr
  rotate_left
  · have dl : ((nt : Int) != (nr : Int)) = true := by simp; omega
    obtain rfl : false = v := by rw [← HV.out]; exact (decide_eq_false (fun h => hlen (by have := h.1.1; have := NR.out; omega))).symm
    clear hlen
    go_wp2_with fail
    go_ret2
    exact ⟨rfl, below_step hB hB5⟩
  have dl : ((nt : Int) != (nr : Int)) = false := by simp [hlen]
  have HL := Lib.hid hlen
  clear hlen
  obtain ⟨vb, hvb⟩ : ∃ vb, anyN (fun t => !decide (RowSh np (len t) (T t))) nt = vb := ⟨_, rfl⟩
  have CF := Lib.hid (cfRow_any nt ct adt w.heap.size len T (fun t => !decide (RowSh np (len t) (T t))) w5 (HT.out.later (below_step hB hB5)) hnt (fun i hi a k w' hb' hrow hl => hCheck1_any np c ne c2 (len i) k w.heap.size ad ad2 a _ (T i) w' hrow np1 hl (by omega) (block_later hb' (block_later hB5 P1.out)) rfl) hvb)
  have VB := Lib.hid hvb
  clear hvb
  go_wp2_with fail
  (with_reducible refine CF.out.mono ?_)
  rintro z w6 ⟨rfl, hb6⟩
  have hB6 := below_step hB5 hb6
  clear CF
  cases vb
  rotate_left
  · obtain rfl : false = v := by
      rw [← HV.out]
      refine (decide_eq_false (fun h => ?_)).symm
      have hb := VB.out
      unfold anyN at hb
      obtain ⟨i, hi, hne⟩ := of_decide_eq_true hb
      simp only [Bool.not_eq_true', decide_eq_false_iff_not] at hne
      exact hne (h.1.2 i hi)
    go_wp2_with fail
    go_ret2
    exact ⟨rfl, below_step hB hB6⟩
  have SH : Hid (ShapedOk nt (u - f + 1) np len T) := Lib.hid (by
    refine ⟨by have := HL.out; have := NR.out; omega, fun t ht => ?_⟩
    have hb := VB.out
    unfold anyN at hb
    have hb := of_decide_eq_false hb
    by_cases hrs : RowSh np (len t) (T t)
    · exact hrs
    · exact absurd ⟨t, ht, by simp [hrs]⟩ hb)
  have hnu : (nt : Int) = u - f + 1 := SH.out.1
  have NET := Lib.hid (block_later hB6 P1.out)
  have y0 := cell_block NET.out 0
  have y1 := cell_block NET.out 1
  clear hb1 hb2 hb3 hb4 hb5 hb6 dl
  go_wp2_with fail
  (with_reducible refine (hOver_any ad ad2 ad4 np c ne c2 na c4 f u w6).mono ?_)
  rintro z w7 ⟨b, bs, bu, bf, ba, bn, rfl, hb7, hbb, hW7, clock, hm7⟩
  unfold waterV
  clear y0 y1
  have HW7 := Lib.hid hW7
  have HM7 := Lib.hid hm7
  have hBw7 := below_step (below_step hB hB6) hb7
  have hbw : w.heap.size ≤ b := by have := (below_step hB hB6).size; omega
  have S7 : Hid (Sums w7 (fun _ => False) b (nt + 1) (sumF X A na f)) := Lib.hid ⟨#[], clock, hm7, fun e he => by simp at he⟩
  clear hW7 hm7 hb7 hbb
  go_wp2_with fail
  refine wp_named fun W8 hW8 => ?_
  obtain ⟨p8, hb8⟩ := box1 hW8
  clear hW8
  have BX := Lib.hid p8
  have BEL := Lib.hid (fun (wr : World) (h : Bes b w7 wr) => hBw7.trans (h.below hbw hBw7.size))
  clear p8
  go_loopw [81] (fun i wr => ∃ k : Nat, k ≤ nt ∧ i = .int .i64 k ∧ Bes b w7 wr ∧ Sums wr (fun _ => False) b (nt + 1) (sumF X A na f) ∧ (∃ ty, wr.heap[w7.heap.size]? = some (.cells #[.slice ad np c, .slice ad2 ne c2, .int .i64 f, .func (.func 85) #[] #[.pointer (some ⟨bs, 0, none⟩), .pointer (some ⟨bu, 0, none⟩), .pointer (some ⟨bf, 0, none⟩), .pointer (some ⟨ba, 0, none⟩), .pointer (some ⟨bn, 0, none⟩)]] ty (0, 0))) ∧ ∀ t, t < k → ChkRow np X ne E na A m Y f s need T t) (fun i _ => nt - (intOf i).toNat)
  case atStart => exact ⟨0, by omega, rfl, Bes.of_below hb8, S7.out.later hb8, ⟨_, BX.out⟩, fun t ht => by omega⟩
  case round =>
    obtain ⟨k, hk, rfl, hbr, hsr, ⟨ty, hbx⟩, hall⟩ := hrel
    have ALL := Lib.hid hall
    have SR := Lib.hid hsr
    have BR := Lib.hid hbx
    clear hall hsr hbx
    by_cases hlt : k < nt
    rotate_left
    · obtain rfl : k = nt := by omega
      obtain rfl : true = v := by rw [← HV.out]; exact (decide_eq_true ⟨SH.out, ALL.out⟩).symm
      go_wp2_with fail
      go_ret2
      exact ⟨rfl, BEL.out _ hbr⟩
    obtain ⟨wo, rfl⟩ : ∃ wo : World, wo = wr := ⟨_, rfl⟩
    obtain ⟨g, o, a, ca, rfl, hc, hl, hr⟩ := (HT.out.later (BEL.out _ hbr)).row hlt
    obtain ⟨hlen, hsm⟩ := SH.out.2 k hlt
    rw [hlen] at hc hr hl
    have R1 := Lib.hid hr
    have jfk : IntKind.i64.wrap (f + (k : Int)) = f + (k : Int) := IntWalk.i64_in _ (by omega)
    clear hr hsm hl hlen
    have RO : Hid (RowsOk np (k : Int) len T) := Lib.hid (fun u hu => SH.out.2 u (by omega))
    go_wp2_with fail
    clear hc
    go_loopw [88] (fun i ws => ∃ j : Nat, j ≤ np ∧ i = .int .i64 j ∧ Bes b wo ws ∧ Sums ws (fun _ => False) b (nt + 1) (sumF X A na f) ∧ ∀ j', j' < j → T k j' ≤ boundI X A E T na f (k : Int) j' ne) (fun i _ => np - (intOf i).toNat)
    case atStart => exact ⟨0, by omega, rfl, Bes.refl _ _, SR.out, fun j' hj => by omega⟩
    case round =>
      obtain ⟨j, hj, rfl, hbs, hss, hall⟩ := hrel
      have ALJ := Lib.hid hall
      have SS := Lib.hid hss
      clear hall hss
      have hbw7 := hbr.trans hbs
      have hBs := BEL.out _ hbw7
      by_cases hjt : j < np
      rotate_left
      · obtain rfl : j = np := by omega
        by_cases hsk : s ≤ f + (k : Int)
        · have RW2 : Hid (Rows 1 wr (.slice a j ca) j (fun i _ => T k i)) := Lib.hid (by
            obtain ⟨es, cl, hm, _⟩ := SR.out
            exact R1.out.bes hm hbs)
          obtain ⟨ve, hve⟩ : ∃ ve, decide (EnoughOk m Y (T k) need) = ve := ⟨_, rfl⟩
          have VE := Lib.hid hve
          clear hve
          go_wp2_with fail
          (with_reducible refine (hEnough_any _ _ _ _ _ _ _ _ _ _ RW2.out (HY.out.later hBs) hn1 hn3 YA.out VE.out).mono ?_)
          rintro z w9 ⟨rfl, hb9⟩
          have hbw9 := hbw7.trans (Bes.of_below hb9)
          have S9 := Lib.hid (SS.out.later hb9)
          have B9 := Lib.hid ((hbs.trans (Bes.of_below hb9)).block_ne BR.out (SR.out.cells_ne BR.out))
          clear RW2
          cases ve
          · obtain rfl : false = v := by rw [← HV.out]; exact (decide_eq_false (fun h => of_decide_eq_false VE.out ((h.2 k hlt).2 (by omega)))).symm
            go_wp2_with fail
            go_ret2
            exact ⟨rfl, BEL.out _ hbw9⟩
          · have VT := Lib.hid (of_decide_eq_true VE.out)
            go_wp2_with fail
            go_roundw
            case rel => exact ⟨k + 1, by omega, by go_num, hbw9, S9.out, ⟨_, B9.out⟩, fun t ht => by
              rcases Nat.lt_or_ge t k with h | h
              · exact ALL.out t h
              · obtain rfl : t = k := by omega
                exact ⟨ALJ.out, fun _ => VT.out⟩⟩
            case measure => simp [intOf]; omega
        · have dsk : decide (s ≤ f + (k : Int)) = false := by simp; omega
          have B9 := Lib.hid (hbs.block_ne BR.out (SR.out.cells_ne BR.out))
          have NSK := Lib.hid hsk
          clear hsk
          go_wp2_with fail
          go_roundw
          case rel => exact ⟨k + 1, by omega, by go_num, hbw7, SS.out, ⟨_, B9.out⟩, fun t ht => by
            rcases Nat.lt_or_ge t k with h | h
            · exact ALL.out t h
            · obtain rfl : t = k := by omega
              exact ⟨ALJ.out, fun h => absurd (show s ≤ f + (t : Int) by omega) NSK.out⟩⟩
          case measure => simp [intOf]; omega
      obtain ⟨es, cl, hmo, _⟩ := SR.out
      obtain ⟨g3, o3, rfl, hc3⟩ := (R1.out.bes hmo hbs).int hjt
      obtain ⟨y1, f1⟩ : ∃ y1, T k j = y1 := ⟨_, rfl⟩
      rw [f1] at hc3
      have Y1 := Lib.hid f1
      have BX1 := hbs.block_ne BR.out (SR.out.cells_ne BR.out)
      have x0 := cell_block BX1 0
      have x1 := cell_block BX1 1
      have x2 := cell_block BX1 2
      have x3 := cell_block BX1 3
      have CB := Lib.hid (hBest_any ad ad2 ad4 (some ⟨g, o, none⟩) np c ne c2 na c4 nt ct X A E T len f u j k (nt + 1) (fun _ => False) b bs bu bf ba bn wr (by omega) G1.out G2.out G3.out hjt (by omega) (HX.out.later hBs) (HA.out.later hBs) (HE.out.later hBs) (HT.out.later hBs) (by omega) RO.out (HW7.out.bes HM7.out hbw7) SS.out (fun _ h => h.elim))
      clear f1 BX1 hmo
      go_wp2_with fail
      (with_reducible refine CB.out.mono ?_)
      rintro z w9 ⟨rfl, hb9, hs9⟩
      clear CB x0 x1 x2 x3 hc3
      obtain ⟨sb, hsb⟩ : ∃ sb, bestW T (waysW X A E na f j k ne) = sb := ⟨_, rfl⟩
      have BD : Hid (boundI X A E T na f (k : Int) j ne = sb.least) := Lib.hid (by rw [← hsb]; exact (best_bound (np := np) G1.out.2.2.2.2).symm)
      rw [hsb]
      obtain ⟨le, ⟨pl, tm, hh, xa⟩, fi⟩ := sb
      unfold encW
      dsimp only at BD ⊢
      have S9 := Lib.hid hs9
      have hbs9 := hbs.trans hb9
      clear hsb hs9
      by_cases hgt : le < y1
      · obtain rfl : false = v := by rw [← HV.out]; exact (decide_eq_false (fun h => by have h2 := (h.2 k hlt).1 j hjt; rw [Y1.out, BD.out] at h2; omega)).symm
        go_wp2_with fail
        go_ret2
        exact ⟨rfl, BEL.out _ ((hbr.trans hbs9).trans (Bes.of_below ((Below.refl _ _).alloc (Nat.le_refl _) _)))⟩
      · have hge : y1 ≤ le := by omega
        have dgt : decide (le < y1) = false := by simp; omega
        go_wp2_with fail
        have B10 := Lib.hid (hbs9.trans (Bes.of_below ((Below.refl w9.heap.size w9).alloc (Nat.le_refl _) (.cells #[.int .i64 pl, .int .i64 tm, .int .i64 hh, .bool xa] 96))))
        have S10 := Lib.hid (S9.out.later ((Below.refl w9.heap.size w9).alloc (Nat.le_refl _) (.cells #[.int .i64 pl, .int .i64 tm, .int .i64 hh, .bool xa] 96)))
        have A10 := Lib.hid (show ∀ j', j' < j + 1 → T k j' ≤ boundI X A E T na f (k : Int) j' ne from fun j' hj' => by
          rcases Nat.lt_or_ge j' j with h | h
          · exact ALJ.out j' h
          · obtain rfl : j' = j := by omega
            rw [Y1.out, BD.out]; exact hge)
        exact ⟨⟨_, _, _, _, _, _, .int .i64 ((j + 1 : Nat) : Int), ⟨j + 1, by omega, rfl, B10.out, S10.out, A10.out⟩, rfl, rfl, rfl, rfl, rfl, rfl, by go_num⟩, by simp [intOf]; omega⟩
end Go.Proofs.Ytcpnkhiillgffaa
