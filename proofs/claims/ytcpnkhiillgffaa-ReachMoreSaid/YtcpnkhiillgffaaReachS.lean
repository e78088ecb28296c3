/- The walk of the reference's Check. -/
import Derived.Test.YtcpnkhiillgffaaReachR
namespace Go.Proofs.Ytcpnkhiillgffaa
open Go.RowKit
attribute [local go_sem] bqOp bqAll bqUpon
attribute [local irreducible] wpQuiet wpBQ
set_option linter.unusedVariables false
def ChkArg (np : Nat) (X : Nat → Nat → Int) (ne : Nat) (E : Nat → Nat → Int) (na : Nat) (A : Nat → Nat → Int) (m : Nat) (Y : Nat → Nat → Int) (f s u need : Int) : Prop :=
  (NetOk np X ne E ∧ AirsOk na A ∧ TimesOk f u) ∧ (0 ≤ need ∧ need ≤ 400) ∧ AreaOk np m Y ∧ f ≤ s ∧ s ≤ u
instance (np : Nat) (X : Nat → Nat → Int) (ne : Nat) (E : Nat → Nat → Int) (na : Nat) (A : Nat → Nat → Int) (m : Nat) (Y : Nat → Nat → Int) (f s u need : Int) : Decidable (ChkArg np X ne E na A m Y f s u need) := by unfold ChkArg; exact inferInstance
/-- What Check asks of row t. -/
def ChkRow (np : Nat) (X : Nat → Nat → Int) (ne : Nat) (E : Nat → Nat → Int) (na : Nat) (A : Nat → Nat → Int) (m : Nat) (Y : Nat → Nat → Int) (f s need : Int) (T : Nat → Nat → Int) (t : Nat) : Prop :=
  (∀ p, p < np → T t p ≤ boundI X A E T na f (t : Int) p ne) ∧ (s - f ≤ (t : Int) → EnoughOk m Y (T t) need)
instance (np : Nat) (X : Nat → Nat → Int) (ne : Nat) (E : Nat → Nat → Int) (na : Nat) (A : Nat → Nat → Int) (m : Nat) (Y : Nat → Nat → Int) (f s need : Int) (T : Nat → Nat → Int) (t : Nat) : Decidable (ChkRow np X ne E na A m Y f s need T t) := by unfold ChkRow; exact inferInstance
def checkQ (np : Nat) (X : Nat → Nat → Int) (ne : Nat) (E : Nat → Nat → Int) (na : Nat) (A : Nat → Nat → Int) (m : Nat) (Y : Nat → Nat → Int) (f s u need : Int) (nt : Nat) (len : Nat → Nat) (T : Nat → Nat → Int) : Bool × Int :=
  if ChkArg np X ne E na A m Y f s u need then (decide (ShapedOk nt (u - f + 1) np len T ∧ ∀ t, t < nt → ChkRow np X ne E na A m Y f s need T t), 0) else (false, 1)
set_option maxRecDepth 100000 in
set_option maxHeartbeats 4000000 in
theorem q33Check_any (np c ne c2 na c4 m c3 nt ct : Nat) (ad ad2 ad4 ad3 adt : Option Addr) (X E A Y T : Nat → Nat → Int) (len : Nat → Nat) (f s u need : Int) (w : World) (hX : Rows 2 w (.slice ad np c) np X) (hE : Rows 4 w (.slice ad2 ne c2) ne E) (hA : Rows 4 w (.slice ad4 na c4) na A) (hY : Rows 1 w (.slice ad3 m c3) m Y) (hT : Tab w (.slice adt nt ct) nt len T) (hn1 : np ≤ 9223372036854775807) (hn2 : ne ≤ 9223372036854775807) (hn4 : na ≤ 9223372036854775807) (hn3 : m ≤ 9223372036854775807) (hnt : nt ≤ 9223372036854775807) {v : Bool} {e : Int} (hr : checkQ np X ne E na A m Y f s u need nt len T = (v, e)) :
    Calls Try.prog 28 #[.agg #[.slice ad np c, .slice ad2 ne c2], .slice ad4 na c4, .slice ad3 m c3, .int .i64 f, .int .i64 s, .int .i64 u, .int .i64 need, .slice adt nt ct] w fun z w' => z = .returned (.tuple #[.bool v, .int .i64 e]) ∧ Below w.heap.size w w' := by
  unfold checkQ at hr
  have HX := Lib.hid hX
  have HE := Lib.hid hE
  have HA := Lib.hid hA
  have HY := Lib.hid hY
  have HT := Lib.hid hT
  have RR := Lib.hid hr
  clear hX hE hA hY hT hr
  obtain ⟨v1, gv1⟩ : ∃ v1, decide (NetOk np X ne E) = v1 := ⟨_, rfl⟩
  have V1 := Lib.hid gv1
  clear gv1
  obtain ⟨v2, gv2⟩ : ∃ v2, decide (AirsOk na A) = v2 := ⟨_, rfl⟩
  have V2 := Lib.hid gv2
  clear gv2
  obtain ⟨v3, gv3⟩ : ∃ v3, decide (0 ≤ f ∧ f ≤ u ∧ u ≤ 10000000 ∧ u - f ≤ 400) = v3 := ⟨_, rfl⟩
  have V3 := Lib.hid gv3
  clear gv3
  obtain ⟨v4, gv4⟩ : ∃ v4, decide (0 ≤ need ∧ need ≤ 400) = v4 := ⟨_, rfl⟩
  have V4 := Lib.hid gv4
  clear gv4
  obtain ⟨v5, gv5⟩ : ∃ v5, decide (AreaOk np m Y) = v5 := ⟨_, rfl⟩
  have V5 := Lib.hid gv5
  clear gv5
  obtain ⟨v6, gv6⟩ : ∃ v6, decide (f ≤ s) = v6 := ⟨_, rfl⟩
  have V6 := Lib.hid gv6
  clear gv6
  obtain ⟨v7, gv7⟩ : ∃ v7, decide (s ≤ u) = v7 := ⟨_, rfl⟩
  have V7 := Lib.hid gv7
  clear gv7
  obtain ⟨v8, gv8⟩ : ∃ v8, decide (ShapedOk nt (u - f + 1) np len T) = v8 := ⟨_, rfl⟩
  have V8 := Lib.hid gv8
  clear gv8
  go_enter Try.func28, Try.ntmps28
  go_wp2_with fail
  refine calls_named fun W hW => ?_
  obtain ⟨p1, hB⟩ := box1 hW
  clear hW
  have q1 := cellsL p1
  have hB0 := Below.refl W.heap.size W
  have P1 := Lib.hid p1
  clear p1
  (with_reducible refine (q33Valid_any _ _ _ _ _ _ _ _ _ (HX.out.later hB) (HE.out.later hB) hn1 hn2 V1.out).mono ?_)
  rintro z w1 ⟨rfl, hb1⟩
  have hB1 := below_step hB0 hb1
  go_wp2_with fail
  (with_reducible refine (q33Airs_any _ _ _ _ _ (HA.out.later (below_step hB hB1)) hn4 V2.out).mono ?_)
  rintro z w2 ⟨rfl, hb2⟩
  have hB2 := below_step hB1 hb2
  go_wp2_with fail
  (with_reducible refine (q33Times_any _ _ _ V3.out).mono ?_)
  rintro z w3 ⟨rfl, hb3⟩
  have hB3 := below_step hB2 hb3
  go_wp2_with fail
  (with_reducible refine (q33Need_any _ _ V4.out).mono ?_)
  rintro z w4 ⟨rfl, hb4⟩
  have hB4 := below_step hB3 hb4
  go_wp2_with fail
  (with_reducible refine (q33Area_any _ _ _ _ _ _ _ _ _ _ _ (HY.out.later (below_step hB hB4)) hn1 hn3 V5.out).mono ?_)
  rintro z w5 ⟨rfl, hb5⟩
  have hB5 := below_step hB4 hb5
  cases v1
  · have h := RR.out
    rw [if_neg (fun h => of_decide_eq_false V1.out h.1.1)] at h
    cases h
    clear RR
    go_wp2_with fail
    go_ret2
    exact ⟨rfl, below_step hB hB5⟩
  cases v2
  · have h := RR.out
    rw [if_neg (fun h => of_decide_eq_false V2.out h.1.2.1)] at h
    cases h
    clear RR
    go_wp2_with fail
    go_ret2
    exact ⟨rfl, below_step hB hB5⟩
  cases v3
  · have h := RR.out
    rw [if_neg (fun h => of_decide_eq_false V3.out h.1.2.2)] at h
    cases h
    clear RR
    go_wp2_with fail
    go_ret2
    exact ⟨rfl, below_step hB hB5⟩
  cases v4
  · have h := RR.out
    rw [if_neg (fun h => of_decide_eq_false V4.out h.2.1)] at h
    cases h
    clear RR
    go_wp2_with fail
    go_ret2
    exact ⟨rfl, below_step hB hB5⟩
  cases v5
  · have h := RR.out
    rw [if_neg (fun h => of_decide_eq_false V5.out h.2.2.1)] at h
    cases h
    clear RR
    go_wp2_with fail
    go_ret2
    exact ⟨rfl, below_step hB hB5⟩
  cases v6
  · have h := RR.out
    rw [if_neg (fun h => of_decide_eq_false V6.out h.2.2.2.1)] at h
    cases h
    clear RR
    have hlt : s < f := by have := of_decide_eq_false V6.out; omega
    go_wp2_with fail
    go_ret2
    exact ⟨rfl, below_step hB hB5⟩
  have f6 := of_decide_eq_true V6.out
  cases v7
  · have h := RR.out
    rw [if_neg (fun h => of_decide_eq_false V7.out h.2.2.2.2)] at h
    cases h
    clear RR
    have hlt : u < s := by have := of_decide_eq_false V7.out; omega
    go_wp2_with fail
    go_ret2
    exact ⟨rfl, below_step hB hB5⟩
  have f7 := of_decide_eq_true V7.out
  have h := RR.out
  rw [if_pos ⟨⟨of_decide_eq_true V1.out, of_decide_eq_true V2.out, of_decide_eq_true V3.out⟩, of_decide_eq_true V4.out, of_decide_eq_true V5.out, f6, f7⟩] at h
  obtain ⟨hv, rfl⟩ := Prod.mk.inj h
  have HV := Lib.hid hv
  clear h hv RR
  obtain ⟨t1, t2, t3, t4⟩ := of_decide_eq_true V3.out
  have YA : Hid (∀ i, i < m → 0 ≤ Y i 0 ∧ Y i 0 < (np : Int)) := Lib.hid (fun i hi => (of_decide_eq_true V5.out i hi).1)
  go_wp2_with fail
  (with_reducible refine (q33shaped_any _ _ _ _ _ _ _ _ (HT.out.later (below_step hB hB5)) hnt hn1 V8.out).mono ?_)
  rintro z w6 ⟨rfl, hb6⟩
  have hB6 := below_step hB5 hb6
  cases v8
  · obtain rfl : false = v := by rw [← HV.out]; exact (decide_eq_false (fun h => of_decide_eq_false V8.out h.1)).symm
    go_wp2_with fail
    go_ret2
    exact ⟨rfl, below_step hB hB6⟩
  have SH := Lib.hid (of_decide_eq_true V8.out)
  have hnu : (nt : Int) = u - f + 1 := SH.out.1
  clear hb1 hb2 hb3 hb4 hb5 hb6
  go_wp2_with fail
  go_loopw [24] (fun i wr => ∃ k : Nat, k ≤ nt ∧ i = .int .i64 k ∧ Below w6.heap.size w6 wr ∧ ∀ t, t < k → ChkRow np X ne E na A m Y f s need T t) (fun i _ => nt - (intOf i).toNat)
  case atStart => exact ⟨0, by omega, rfl, Below.refl _ _, fun t ht => by omega⟩
  case round =>
    obtain ⟨k, hk, rfl, hbr, hall⟩ := hrel
    have ALL := Lib.hid hall
    clear hall
    have hBr := below_step hB6 hbr
    by_cases hlt : k < nt
    rotate_left
    · obtain rfl : k = nt := by omega
      obtain rfl : true = v := by rw [← HV.out]; exact (decide_eq_true ⟨SH.out, ALL.out⟩).symm
      go_wp2_with fail
      go_ret2
      exact ⟨rfl, below_step hB hBr⟩
    obtain ⟨wo, rfl⟩ : ∃ wo : World, wo = wr := ⟨_, rfl⟩
    obtain ⟨g, o, a, ca, rfl, hc, hl, hr⟩ := (HT.out.later (below_step hB hBr)).row hlt
    obtain ⟨hlen, hsm⟩ := SH.out.2 k hlt
    rw [hlen] at hc hr hl
    have C1 := Lib.hid hc
    have R1 := Lib.hid hr
    have SM := Lib.hid hsm
    clear hc hr hsm hl hlen
    have RO : Hid (RowsOk np (k : Int) len T) := Lib.hid (fun u hu => SH.out.2 u (by omega))
    go_wp2_with fail
    go_loopw [25] (fun i ws => ∃ j : Nat, j ≤ np ∧ i = .int .i64 j ∧ Below wo.heap.size wo ws ∧ ∀ j', j' < j → T k j' ≤ boundI X A E T na f (k : Int) j' ne) (fun i _ => np - (intOf i).toNat)
    case atStart => exact ⟨0, by omega, rfl, Below.refl _ _, fun j' hj => by omega⟩
    case round =>
      obtain ⟨j, hj, rfl, hbs, hall⟩ := hrel
      have ALJ := Lib.hid hall
      clear hall
      have hBs := below_step hBr hbs
      have hb6s := below_step hbr hbs
      have q2 := cell_later hbs C1.out
      by_cases hjt : j < np
      rotate_left
      · obtain rfl : j = np := by omega
        by_cases hsk : s - f ≤ (k : Int)
        · have RW2 : Hid (Rows 1 wr (.slice a j ca) j (fun i _ => T k i)) := Lib.hid (R1.out.later hbs)
          obtain ⟨ve, hve⟩ : ∃ ve, decide (EnoughOk m Y (T k) need) = ve := ⟨_, rfl⟩
          have VE := Lib.hid hve
          clear hve
          go_wp2_with fail
          (with_reducible refine (q33enough_any _ _ _ _ _ _ _ _ _ _ RW2.out (HY.out.later (below_step hB hBs)) hn1 hn3 YA.out VE.out).mono ?_)
          rintro z w7 ⟨rfl, hb7⟩
          have hB7 := below_step hBs hb7
          have hb67 := below_step hb6s hb7
          clear q2 RW2
          cases ve
          · obtain rfl : false = v := by rw [← HV.out]; exact (decide_eq_false (fun h => of_decide_eq_false VE.out ((h.2 k hlt).2 hsk))).symm
            go_wp2_with fail
            go_ret2
            exact ⟨rfl, below_step hB hB7⟩
          · have VT := of_decide_eq_true VE.out
            go_wp2_with fail
            go_roundw
            case rel => exact ⟨k + 1, by omega, by go_num, hb67, fun t ht => by
              rcases Nat.lt_or_ge t k with h | h
              · exact ALL.out t h
              · obtain rfl : t = k := by omega
                exact ⟨ALJ.out, fun _ => VT⟩⟩
            case measure => simp [intOf]; omega
        · go_wp2_with fail
          go_roundw
          case rel => exact ⟨k + 1, by omega, by go_num, hb6s, fun t ht => by
            rcases Nat.lt_or_ge t k with h | h
            · exact ALL.out t h
            · obtain rfl : t = k := by omega
              exact ⟨ALJ.out, fun h => absurd h hsk⟩⟩
          case measure => simp [intOf]; omega
      obtain ⟨g3, o3, rfl, hc3⟩ := R1.out.int hjt
      obtain ⟨y1, f1⟩ : ∃ y1, T k j = y1 := ⟨_, rfl⟩
      rw [f1] at hc3
      have C3 := Lib.hid hc3
      have Y1 := Lib.hid f1
      clear hc3 f1
      obtain ⟨rb, hrb⟩ : ∃ rb, boundI X A E T na f (k : Int) j ne = rb := ⟨_, rfl⟩
      have RB := Lib.hid hrb
      have CB := Lib.hid (fun w' hw => (q33Bound_any np c ne c2 na c4 nt ct ad ad2 ad4 _ X E A T len f (k : Int) j w' (HX.out.later hw) (HE.out.later hw) (HA.out.later hw) (HT.out.later hw) (of_decide_eq_true V1.out) (of_decide_eq_true V2.out) hjt t1 (by omega) (by omega) (by omega) (by omega) RO.out hn1 hn2 hnt hrb).mono (fun z w'' h => (⟨h.1, h.2.2.2⟩ : z = .returned (.int .i64 rb) ∧ Below w'.heap.size w' w'')))
      clear hrb
      go_wp2_with fail
      have jkn : (k : Int) < (nt : Int) := by omega
      have jjn : (j : Int) < (np : Int) := by omega
      clear q2 q1
      have q1 := cellsR (block_later hBs P1.out)
      have c1 := fun d os => cell_later (below_regrown wr d os) (cell_later hbs C1.out)
      have c3 := fun d os => cell_later (below_regrown wr d os) (cell_later hbs C3.out)
      (refine wp_region_quiet_below (by kernel_rfl) (by kernel_rfl) ?_; (repeat (refine wpQuiet_step (fun K hK => ?_); replace hK := Lib.hid hK; go_simp; first | (refine hK.out _ ?_; clear hK K) | (apply Exists.intro; refine ⟨fun _ => ?_, hK.out _ ?_⟩; ((go_at_call 58; exact Calls.regrown_of (CB.out _ (below_step (below_step hB hBs) (below_regrown _ _ _))))); clear hK K))); refine wpQuiet_nil ?_)
      intro w7 hr7
      have hb7 := regrown_below hr7
      clear hr7 q1 c1 c3 CB
      by_cases hy : rb < y1
      · obtain rfl : false = v := by rw [← HV.out]; exact (decide_eq_false (fun h => by have h := (h.2 k hlt).1 j hjt; rw [Y1.out, RB.out] at h; omega)).symm
        go_wp2_with fail
        go_ret2
        exact ⟨rfl, below_step hB (below_step hBs hb7)⟩
      · go_wp2_with fail
        refine ⟨⟨_, _, _, ⟨j + 1, by omega, ?_, below_step hbs hb7, fun j' hj' => ?_⟩, rfl, rfl, rfl⟩, ?_⟩
        · go_num
        · rcases Nat.lt_or_ge j' j with h | h
          · exact ALJ.out j' h
          · obtain rfl : j' = j := by omega
            rw [Y1.out, RB.out]; omega
        · simp [intOf]; omega
end Go.Proofs.Ytcpnkhiillgffaa
