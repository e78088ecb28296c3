/- For any station, sun, box, times and number: the statement StationSure of chapter 31 (which slots are in the list of those that all places of the box hear, and that the list rises): the law's function returns true and leaves its arguments as they were. No condition. -/
import Derived.Test.YtnidacjmgekdjaaStationHead
import Derived.Test.YtnidacjmgekdjaaStationMath
import Derived.Test.YtnidacjmgekdjaaFrameS
namespace Go.Proofs.Ytnidacjmgekdjaa
open Go.ChangeShapes Go.WideShapes Go.ChangeAt Go.RowKit
attribute [local go_sem] bqOp bqAll bqUpon
attribute [local irreducible] wpQuiet wpBQ
set_option linter.unusedVariables false
theorem mem_pickL (p : Int → Bool) (a k : Int) (n : Nat) : k ∈ pickL p a n ↔ a ≤ k ∧ k < a + (n : Int) ∧ p k = true := by
  induction n with
  | zero => simp [pickL]; omega
  | succ n ih =>
    unfold pickL
    rw [List.mem_append, ih]
    by_cases hp : p (a + (n : Int)) = true
    · rw [if_pos hp]
      simp only [List.mem_singleton]
      constructor
      · rintro (⟨h1, h2, h3⟩ | rfl)
        · exact ⟨h1, by omega, h3⟩
        · exact ⟨by omega, by omega, hp⟩
      · rintro ⟨h1, h2, h3⟩
        by_cases e : k = a + (n : Int)
        · exact .inr e
        · exact .inl ⟨h1, by omega, h3⟩
    · rw [if_neg hp]
      simp only [List.not_mem_nil, or_false]
      constructor
      · rintro ⟨h1, h2, h3⟩; exact ⟨h1, by omega, h3⟩
      · rintro ⟨h1, h2, h3⟩
        by_cases e : k = a + (n : Int)
        · subst e; exact absurd h3 hp
        · exact ⟨h1, by omega, h3⟩
theorem pickL_pairwise (p : Int → Bool) (a : Int) (n : Nat) : (pickL p a n).Pairwise (· < ·) := by
  induction n with
  | zero => exact List.Pairwise.nil
  | succ n ih =>
    unfold pickL
    split
    · rw [List.pairwise_append]
      refine ⟨ih, List.pairwise_singleton _ _, fun x hx y hy => ?_⟩
      rw [mem_pickL] at hx
      simp only [List.mem_singleton] at hy
      omega
    · simpa using ih
theorem rises_of {L : List Int} (h : L.Pairwise (· < ·)) (i : Nat) (hi : i + 1 < L.length) : L.getD i 0 < L.getD (i + 1) 0 := by
  have := (List.pairwise_iff_getElem.1 h) i (i + 1) (by omega) hi (by omega)
  simpa [List.getD, show i < L.length by omega, hi] using this
def hasB (L : List Int) (k : Int) (j : Nat) : Bool := decide (k ∈ L.take j)
theorem hasB_yes {L : List Int} {k : Int} {j : Nat} (h : hasB L k j = true) : hasB L k (j + 1) = true := by
  unfold hasB at *
  simp only [decide_eq_true_eq] at *
  exact List.mem_of_mem_take (by rw [List.take_take, Nat.min_eq_left (Nat.le_succ j)]; exact h)
theorem hasB_next {L : List Int} {k : Int} {j : Nat} (hj : j < L.length) (h : hasB L k j = false) : hasB L k (j + 1) = (L.getD j 0 == k) := by
  unfold hasB at *
  rw [List.take_succ_eq_append_getElem hj]
  have e : L.getD j 0 = L[j] := by simp [List.getD, hj]
  rw [e, Bool.eq_iff_iff]
  simp only [decide_eq_true_eq, decide_eq_false_iff_not, List.mem_append, List.mem_singleton, beq_iff_eq] at *
  exact ⟨fun h' => h'.elim (fun h1 => absurd h1 h) Eq.symm, fun h' => .inr h'.symm⟩
theorem sure_facts {id ax ay dr nr fi ev dn dk xl xh yl yh t t2 k e s f x g : Int} {L : List Int} (h1 : sureR id ax ay dr nr fi ev dn dk xl xh yl yh t t2 = (L, e)) (h2 : slotR id ax ay dr nr fi ev k = (s, f)) (h3 : hearsR id ax ay dr nr fi ev dn dk xl xh yl yh s = (x, g)) :
    (e = 1 ∨ e = 2) ∧ L = [] ∨ e = 0 ∧ L.Pairwise (· < ·) ∧ (f = 0 ∧ t ≤ s ∧ s < t2 ∧ g = 0 ∧ (x = 1 ↔ k ∈ L) ∨ ¬ (f = 0 ∧ t ≤ s ∧ s < t2) ∧ k ∉ L) := by
  unfold sureR at h1
  by_cases c1 : Sn dn dk ∧ Bx xl xh yl yh
  · rw [if_pos c1] at h1
    by_cases c2 : Stn id ax ay dr nr fi ev ∧ Tm t ∧ Tm t2 ∧ t ≤ t2
    · rw [if_pos c2] at h1
      by_cases c3 : aheadI fi ev t2 - aheadI fi ev t ≤ 400
      · rw [if_pos c3] at h1
        cases h1
        obtain ⟨d0, d1, d2, d3⟩ := c2
        have z := d0.e1
        have b1 := aheadI_bd (t := t) d0.f1 d1.2 d0.e1 d0.e2
        have b2 := aheadI_bd (t := t2) d0.f1 d2.2 d0.e1 d0.e2
        have hm := ahead_mono (fi := fi) z d3
        refine .inr ⟨rfl, pickL_pairwise _ _ _, ?_⟩
        have hmem := mem_pickL (sureB ax ay dr nr fi ev dn dk xl xh yl yh) (aheadI fi ev t) k (aheadI fi ev t2 - aheadI fi ev t).toNat
        have ez : aheadI fi ev t + ((aheadI fi ev t2 - aheadI fi ev t).toNat : Int) = aheadI fi ev t2 := by omega
        rw [ez] at hmem
        have T2 := d2.2
        by_cases hk : 0 ≤ k
        · have a1 := ahead_lt (fi := fi) (t := t) z hk
          have a2 := ahead_lt (fi := fi) (t := t2) z hk
          unfold slotR at h2
          rw [if_pos ⟨d0, hk⟩] at h2
          by_cases hs : fi + k * ev ≤ 10000000
          · rw [if_pos hs] at h2
            cases h2
            by_cases hin : t ≤ fi + k * ev ∧ fi + k * ev < t2
            · have T1 := d1.1
              have htm : Tm (fi + k * ev) := ⟨by omega, hs⟩
              unfold hearsR at h3
              rw [if_pos ⟨d0, c1.1, c1.2, htm⟩] at h3
              cases h3
              refine .inl ⟨rfl, hin.1, hin.2, rfl, ?_⟩
              rw [hears_one, hmem]
              exact ⟨fun h => ⟨by omega, by omega, h⟩, fun h => h.2.2⟩
            · exact .inr ⟨fun h => hin h.2, fun h => by have := hmem.1 h; omega⟩
          · rw [if_neg hs] at h2
            cases h2
            exact .inr ⟨fun h => by omega, fun h => by have := hmem.1 h; omega⟩
        · unfold slotR at h2
          rw [if_neg (fun h => hk h.2)] at h2
          cases h2
          exact .inr ⟨fun h => by omega, fun h => by have := hmem.1 h; omega⟩
      · rw [if_neg c3] at h1
        cases h1
        exact .inl ⟨.inr rfl, rfl⟩
    · rw [if_neg c2] at h1
      cases h1
      exact .inl ⟨.inl rfl, rfl⟩
  · rw [if_neg c1] at h1
    cases h1
    exact .inl ⟨.inl rfl, rfl⟩
set_option maxRecDepth 100000 in
set_option maxHeartbeats 2000000 in
theorem stationSure_walk (id ax ay dr nr fi ev dn dk xl xh yl yh t t2 k : Int) (w : World) :
    Calls Try.prog 8 #[.agg #[.int .i64 id, .int .i64 ax, .int .i64 ay, .int .i64 dr, .int .i64 nr, .int .i64 fi, .int .i64 ev], .agg #[.int .i64 dn, .int .i64 dk], .agg #[.int .i64 xl, .int .i64 xh, .int .i64 yl, .int .i64 yh], .int .i64 t, .int .i64 t2, .int .i64 k] w fun e w' => e = .returned (.bool true) ∧ Below w.heap.size w w' := by
  obtain ⟨⟨L, e⟩, h1⟩ : ∃ r, sureR id ax ay dr nr fi ev dn dk xl xh yl yh t t2 = r := ⟨_, rfl⟩
  obtain ⟨⟨s, f⟩, h2⟩ : ∃ r, slotR id ax ay dr nr fi ev k = r := ⟨_, rfl⟩
  obtain ⟨⟨x, g⟩, h3⟩ : ∃ r, hearsR id ax ay dr nr fi ev dn dk xl xh yl yh s = r := ⟨_, rfl⟩
  have J := Lib.hid (sure_facts h1 h2 h3)
  have LL := sureR_len h1
  have A1 := Lib.hid (fun w => sSure_any id ax ay dr nr fi ev dn dk xl xh yl yh t t2 w h1)
  have A2 := Lib.hid (fun w => sSlot_any id ax ay dr nr fi ev k w h2)
  have A3 := Lib.hid (fun w => sHears_any id ax ay dr nr fi ev dn dk xl xh yl yh s w h3)
  clear h1 h2 h3
  go_enter Try.func8, Try.ntmps8
  go_wp2_with fail
  refine calls_named fun W hW => ?_
  obtain ⟨p1, p2, p3, hB⟩ := box3 hW
  clear hW
  have P1 := Lib.hid p1
  have P2 := Lib.hid p2
  have P3 := Lib.hid p3
  have q1 := cellsL p1
  have q2 := cellsL p2
  have q3 := cellsL p3
  clear p1 p2 p3
  (with_reducible refine (head_true _).mono ?_)
  rintro e' w1 ⟨rfl, hB1⟩
  go_wp2_with fail
  (with_reducible refine (A1.out _).mono ?_)
  rintro e' w2 ⟨sl, rfl, hb2, hl⟩
  obtain ⟨ad, c, rfl, hc⟩ := hl
  have C := Lib.hid hc
  clear hc
  have hB2 := below_step hB1 hb2
  clear hb2 q1 q2 q3
  rcases J.out with ⟨rfl | rfl, rfl⟩ | ⟨rfl, hr, hk⟩
  · go_wp2_with fail
    go_returns
    exact ⟨rfl, below_step hB hB2⟩
  · go_wp2_with fail
    go_returns
    exact ⟨rfl, below_step hB hB2⟩
  · have R := Lib.hid (rises_of hr)
    have K := Lib.hid hk
    clear hr hk J
    obtain ⟨n, hn⟩ : ∃ n, L.length = n := ⟨_, rfl⟩
    rw [hn] at LL
    have N := Lib.hid hn
    rw [hn]
    clear hn
    go_wp2_with fail
    go_loopw [13, 16, 17] (fun u h i wr => ∃ j : Nat, j ≤ n ∧ i = .int .i64 j ∧ h = .bool (hasB L k j) ∧ u = .bool true ∧ Below w2.heap.size w2 wr) (fun _ _ i _ => n - (intOf i).toNat)
    case atStart => exact ⟨0, by omega, rfl, rfl, rfl, Below.refl _ _⟩
    case round =>
      obtain ⟨j, hj, rfl, rfl, rfl, hbr⟩ := hrel
      by_cases hlt : j < n
      · obtain ⟨g1, rfl, d1⟩ := C.out j (by rw [N.out]; exact hlt)
        have c1 := cell_later hbr d1
        have q1 := fun d os => cell_later (below_regrown wr d os) c1
        obtain ⟨v, hv⟩ : ∃ v, L.getD j 0 = v := ⟨_, rfl⟩
        rw [hv] at c1 q1
        have V := Lib.hid hv
        obtain ⟨hh, hhe⟩ : ∃ hh, hasB L k j = hh := ⟨_, rfl⟩
        rw [hhe]
        have HH := Lib.hid hhe
        obtain ⟨nb, hnb⟩ : ∃ nb, hasB L k (j + 1) = nb := ⟨_, rfl⟩
        have NB := Lib.hid hnb
        clear hv hhe hnb d1
        go_upto_region 9 with (fail)
        go_cut [16] from 54 to 62 (fun s wx => s = .bool nb ∧ wr = wx)
        case first =>
          cases hh
          · have e1 := hasB_next (by rw [N.out]; exact hlt) HH.out
            rw [NB.out, V.out] at e1
            subst e1
            go_wp2_with fail
            go_meet
            exact ⟨rfl, rfl⟩
          · have e1 := hasB_yes HH.out
            rw [NB.out] at e1
            subst e1
            go_wp2_with fail
            go_meet
            exact ⟨rfl, rfl⟩
        case rest =>
          obtain ⟨rfl, rfl⟩ := hcut
          clear c1
          rcases Nat.eq_zero_or_pos j with hj0 | hj0
          · subst hj0
            go_wp2_with fail
            (refine wp_region_quiet_below (by kernel_rfl) (by kernel_rfl) ?_; (repeat (refine wpQuiet_step (fun K hK => ?_); replace hK := Lib.hid hK; go_simp; first | (refine hK.out _ ?_; clear hK K) | (apply Exists.intro; refine ⟨fun _ => ?_, hK.out _ ?_⟩; (fail); clear hK K))); refine wpQuiet_nil ?_)
            intro w4 hw4
            have hb4 := below_step hbr (regrown_below hw4)
            clear hw4 q1
            go_wp2_with fail
            go_roundw
            case rel => exact ⟨0 + 1, by omega, by go_num, by rw [NB.out], rfl, hb4⟩
            case measure => simp [intOf]; omega
          · obtain ⟨i, rfl⟩ : ∃ i, j = i + 1 := ⟨j - 1, by omega⟩
            have rr := R.out i (by rw [N.out]; exact hlt)
            obtain ⟨g2, hg2, d2⟩ := C.out i (by rw [N.out]; omega)
            obtain rfl : g1 = g2 := by simpa using hg2
            have q2 := fun d os => cell_later (below_regrown wr d os) (cell_later hbr d2)
            obtain ⟨u, hu⟩ : ∃ u, L.getD i 0 = u := ⟨_, rfl⟩
            rw [hu] at q2 rr
            rw [V.out] at rr
            have U := Lib.hid hu
            have jz : ((i : Int) + 1 == 0) = false := by simp; omega
            have js : IntKind.i64.wrap (i : Int) = (i : Int) := IntWalk.i64_in _ (by omega)
            have js' : IntKind.i64.wrap ((i : Int) + 1 - 1) = (i : Int) := by rw [IntWalk.i64_in _ (by omega)]; omega
            have jn : ((i : Int) + 1).toNat = i + 1 := by omega
            have jl : (i : Int) + 1 < (n : Int) := by omega
            have jp : 0 ≤ (i : Int) + 1 := by omega
            have jli : (i : Int) < (n : Int) := by omega
            have jln : i < n := by omega
            clear hu d2 hg2
            go_wp2_with fail
            (refine wp_region_quiet_below (by kernel_rfl) (by kernel_rfl) ?_; (repeat (refine wpQuiet_step (fun K hK => ?_); replace hK := Lib.hid hK; go_simp; first | (refine hK.out _ ?_; clear hK K) | (apply Exists.intro; refine ⟨fun _ => ?_, hK.out _ ?_⟩; (fail); clear hK K))); refine wpQuiet_nil ?_)
            intro w4 hw4
            have hb4 := below_step hbr (regrown_below hw4)
            clear hw4 q1 q2 jz js js' jn
            go_wp2_with fail
            go_roundw
            case rel => exact ⟨i + 1 + 1, by omega, by go_num, by rw [NB.out], rfl, hb4⟩
            case measure => simp [intOf]; omega
      · have hjn : j = n := by omega
        subst hjn
        have hB3 := below_step hB2 hbr
        obtain ⟨hh, hhe⟩ : ∃ hh, hasB L k j = hh := ⟨_, rfl⟩
        rw [hhe]
        have HM : hh = true ↔ k ∈ L := by
          rw [← hhe]
          unfold hasB
          rw [← N.out, List.take_length]
          simp
        clear hhe
        have q1 := cellsL P1.out
        have q2 := cellsL P2.out
        have q3 := cellsL P3.out
        rcases K.out with ⟨rfl, k1, k2, rfl, hx⟩ | ⟨hn, hk⟩
        · have hxh : hh = true ↔ x = 1 := by rw [HM, hx]
          have d1 : decide (s < t) = false := by simpa using k1
          have d2 : decide (t2 ≤ s) = false := by simpa using k2
          by_cases x1 : x = 1
          · subst x1
            obtain rfl : hh = true := hxh.2 rfl
            clear hxh hx HM
            go_wp2_with fail
            (with_reducible refine (A2.out _).mono ?_)
            rintro e' w4 ⟨rfl, hb4⟩
            have hB4 := below_step hB3 hb4
            go_wp2_with fail
            (with_reducible refine (A3.out _).mono ?_)
            rintro e' w5 ⟨rfl, hb5⟩
            have hB5 := below_step hB4 hb5
            go_wp2_with fail
            go_returns
            exact ⟨rfl, below_step hB hB5⟩
          · have x2 : (x == 1) = false := by simp [x1]
            obtain rfl : hh = false := by cases hh; rfl; exact absurd (hxh.1 rfl) x1
            clear hxh hx HM x1
            go_wp2_with fail
            (with_reducible refine (A2.out _).mono ?_)
            rintro e' w4 ⟨rfl, hb4⟩
            have hB4 := below_step hB3 hb4
            go_wp2_with fail
            (with_reducible refine (A3.out _).mono ?_)
            rintro e' w5 ⟨rfl, hb5⟩
            have hB5 := below_step hB4 hb5
            go_wp2_with fail
            go_returns
            exact ⟨rfl, below_step hB hB5⟩
        · obtain rfl : hh = false := by cases hh; rfl; exact absurd (HM.1 rfl) hk
          have NN := Lib.hid hn
          clear HM hk hn
          go_wp2_with fail
          (with_reducible refine (A2.out _).mono ?_)
          rintro e' w4 ⟨rfl, hb4⟩
          have hB4 := below_step hB3 hb4
          clear hb4
          by_cases f0 : f = 0
          · have f1 : (f != 0) = false := by simp [f0]
            by_cases s1 : s < t
            · clear f0
              go_wp2_with fail
              go_returns
              exact ⟨rfl, below_step hB hB4⟩
            · have d1 : decide (s < t) = false := by simpa using s1
              have s2 : t2 ≤ s := by
                have := NN.out
                omega
              clear f0
              go_wp2_with fail
              go_returns
              exact ⟨rfl, below_step hB hB4⟩
          · have f1 : (f != 0) = true := by simp [f0]
            clear f0
            go_wp2_with fail
            go_returns
            exact ⟨rfl, below_step hB hB4⟩
set_option maxRecDepth 100000 in
theorem stationSure_lifted (os : Os) (started : os.Started) (H : Type) (enc : TypeId × Value → H) :
    ReturnsInHanded {} Try.checked os 8 .any (Rows.stationSureSpec.pre6 enc Try.prog Try.f8 Rows.stationSureRow.domain false) (Rows.stationSureSpec.post enc Try.prog Try.f8 false true false false) := by
  refine returnsInHanded_of_change (C := Try.checked) own_knob started (by kernel_rfl) Try.func8
    (ChangeSpec.witness6 (enc := enc) (C := Try.checked) false ⟨#[], #[.agg #[.int .i64 0, .int .i64 0, .int .i64 0, .int .i64 0, .int .i64 0, .int .i64 0, .int .i64 0], .agg #[.int .i64 0, .int .i64 0], .agg #[.int .i64 0, .int .i64 0, .int .i64 0, .int .i64 0], .int .i64 0, .int .i64 0, .int .i64 0], []⟩ 8 (by kernel_rfl) (by kernel_rfl) (by kernel_rfl) (by kernel_rfl)) ?_
  intro W base args ds gs before hval0 hW hcnd _
  have hval : ∀ (j : Nat) t v, Try.f8.params[j]? = some t → args[j]? = some v → Value.okWide Try.prog W .any base t v := hval0
  have hW' := hW
  obtain ⟨p, q, hA0, hV, rfl, hfz, hnd⟩ := hW
  have hA : DataW.TrodAll enc Try.prog W 0 (fun _ => true) true Try.f8.params.toList args.toList ds p := hA0
  rw [Try.params8] at hA hval
  obtain ⟨v0, vs0, d0, ds0, p0, q0, hargs, rfl, rfl, h0, r0⟩ := trodAll_cons hA
  obtain ⟨v1, vs1, d1, ds1, p1, q1, rfl, rfl, rfl, h1, r1⟩ := trodAll_cons r0
  obtain ⟨v2, vs2, d2, ds2, p2, q2, rfl, rfl, rfl, h2, r2⟩ := trodAll_cons r1
  obtain ⟨v3, vs3, d3, ds3, p3, q3, rfl, rfl, rfl, h3, r3⟩ := trodAll_cons r2
  obtain ⟨v4, vs4, d4, ds4, p4, q4, rfl, rfl, rfl, h4, r4⟩ := trodAll_cons r3
  obtain ⟨v5, vs5, d5, ds5, p5, q5, rfl, rfl, rfl, h5, r5⟩ := trodAll_cons r4
  obtain ⟨rfl, rfl, rfl⟩ := trodAll_nil r5
  obtain rfl : args = #[v0, v1, v2, v3, v4, v5] := by cases args; simp_all
  obtain ⟨rfl, rfl⟩ := trodVars_none hV
  simp only [List.append_nil] at hW' hA0
  obtain ⟨id, ax, ay, dr, nr, fi, ev, e0⟩ := open_station (hval 0 25 v0 rfl rfl) h0
  subst e0
  obtain ⟨dn, dk, e1⟩ := open_sun (hval 1 27 v1 rfl rfl) h1
  subst e1
  obtain ⟨xl, xh, yl, yh, e2⟩ := open_box (hval 2 31 v2 rfl rfl) h2
  subst e2
  obtain ⟨t, e3, _, _, w3⟩ := open_int Try.underlying3 (hval 3 3 v3 rfl rfl) h3
  subst e3
  obtain ⟨t2, e4, _, _, w4⟩ := open_int Try.underlying3 (hval 4 3 v4 rfl rfl) h4
  subst e4
  obtain ⟨k, e5, _, _, w5⟩ := open_int Try.underlying3 (hval 5 3 v5 rfl rfl) h5
  subst e5
  refine (stationSure_walk id ax ay dr nr fi ev dn dk xl xh yl yh t t2 k W).mono fun e W' ⟨he, hg⟩ => ?_
  subst he
  exact ⟨_, rfl, post_law laid_out (by rw [Try.params8]; intro t ht; simp only [List.mem_cons, List.not_mem_nil, or_false] at ht; rcases ht with rfl | rfl | rfl | rfl | rfl | rfl <;> exact ⟨by kernel_rfl, of_decide_eq_true (by kernel_rfl)⟩) rfl hW' hA0 rfl rfl rfl rfl Try.underlying4 hg⟩
theorem stationSure_over : Rows.stationSureRow.holds Try.pinned (OpenSpec.ofChange Rows.stationSureSpec) :=
  OpenClaim.holds_of_wide 8 Try.f8 rfl rfl rfl rfl rfl rfl rfl ⟨rfl, rfl, rfl, rfl, rfl⟩ rfl rfl rfl rfl rfl (by kernel_rfl) Try.func8 (by kernel_rfl)
    (of_decide_eq_true (by kernel_rfl)) (by unfold Func.isWrapper; first | (rw [if_pos (by decide +kernel)]; kernel_rfl) | (rw [if_neg (by decide +kernel)]; exact ⟨rfl, rfl⟩))
    (fun os started H enc _ => stationSure_lifted os started H enc)
theorem stationSure_holds : Rows.StationSureSaid :=
  stationSure_over
#print axioms stationSure_holds
end Go.Proofs.Ytnidacjmgekdjaa
