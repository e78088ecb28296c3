/- The walks of the reference's tracks, and of what is heard between two times. -/
import Derived.Test.YtcpnkhiillgffaaReachE
namespace Go.Proofs.Ytcpnkhiillgffaa
open Go.RowKit
attribute [local go_sem] bqOp bqAll bqUpon
attribute [local irreducible] wpQuiet wpBQ
set_option linter.unusedVariables false
set_option maxHeartbeats 1000000 in
theorem q33leads_any (np c ne c2 : Nat) (ad ad2 : Option Addr) (E : Nat → Nat → Int) (pa ta pb tb : Int) (w : World) (hE : Rows 4 w (.slice ad2 ne c2) ne E) (hn2 : ne ≤ 9223372036854775807)
    (a1 : -1000 ≤ ta) (a2 : ta ≤ 10000000) (b1 : -1000 ≤ tb) (b2 : tb ≤ 10000000) {v : Bool} (hv : decide (LeadsOk ne E pa ta pb tb) = v) :
    Calls Try.prog 46 #[.agg #[.slice ad np c, .slice ad2 ne c2], .agg #[.int .i64 pa, .int .i64 ta], .agg #[.int .i64 pb, .int .i64 tb]] w fun e w' => e = .returned (.bool v) ∧ Below w.heap.size w w' := by
  have HE := Lib.hid hE
  have HV := Lib.hid hv
  clear hE hv
  by_cases hpp : pa = pb
  rotate_left
  · have dpp : (pa == pb) = false := by simp [hpp]
    have HP := Lib.hid hpp
    clear hpp
    go_enter Try.func46, Try.ntmps46
    go_wp2_with fail
    refine wp_named fun W hW => ?_
    obtain ⟨p1, p2, p3, hB⟩ := box3 hW
    clear hW
    have hB0 := Below.refl W.heap.size W
    have P1 := Lib.hid p1
    have P2 := Lib.hid p2
    have P3 := Lib.hid p3
    clear p1 p2 p3
    go_loopw [7] (fun i wr => ∃ k : Nat, k ≤ ne ∧ i = .int .i64 k ∧ Below W.heap.size W wr ∧ ∀ m, m < k → ¬ SailOk (E m) pa pb (tb - ta)) (fun i _ => ne - (intOf i).toNat)
    case atStart => exact ⟨0, by omega, rfl, hB0, fun m hm => by omega⟩
    case round =>
      obtain ⟨k, hk, rfl, hbr, hall⟩ := hrel
      have ALL := Lib.hid hall
      clear hall
      have q1 := cellsL P1.out
      by_cases hlt : k < ne
      rotate_left
      · obtain rfl : k = ne := by omega
        go_wp2_with fail
        go_returns
        exact ⟨ret_bool (by rw [← HV.out]; exact (decide_eq_false (fun h => by
          rcases h with h | ⟨i, hi, h⟩
          · exact HP.out h.1
          · exact ALL.out i hi h)).symm), below_step hB hbr⟩
      obtain ⟨g, o, rfl, hc⟩ := HE.out.row hlt
      have c0 := cell_later (below_step hB hbr) (hc 0 (by omega))
      have c1 := cell_later (below_step hB hbr) (hc 1 (by omega))
      have c2' := cell_later (below_step hB hbr) (hc 2 (by omega))
      have c3 := cell_later (below_step hB hbr) (hc 3 (by omega))
      simp only [Nat.add_zero] at c0
      clear hc
      go_upto_region 7 with (fail)
      refine wp_named fun y hy => ?_
      obtain ⟨pe, hby⟩ := box1 hy
      have hBy := below_step hbr hby
      clear hy c0 c1 c2' c3 q1
      have qe := cell_block pe
      have q2 := cell_block (block_later hBy P2.out)
      have q3 := cell_block (block_later hBy P3.out)
      clear pe
      by_cases h1 : E k 0 = pa
      rotate_left
      · have d1 : (E k 0 == pa) = false := by simp [h1]
        have H1 := Lib.hid h1
        clear h1
        go_wp2_with fail
        go_roundw
        case rel => exact ⟨k + 1, by omega, by go_num, hBy, fun m hm => by
          rcases Nat.lt_or_ge m k with h | h
          · exact ALL.out m h
          · obtain rfl : m = k := by omega
            exact fun h => H1.out h.1⟩
        case measure => simp [intOf]; omega
      have d1 : (E k 0 == pa) = true := by simp [h1]
      have H1 := Lib.hid h1
      clear h1
      by_cases h2 : E k 1 = pb
      rotate_left
      · have d2 : (E k 1 == pb) = false := by simp [h2]
        have H2 := Lib.hid h2
        clear h2
        go_wp2_with fail
        go_roundw
        case rel => exact ⟨k + 1, by omega, by go_num, hBy, fun m hm => by
          rcases Nat.lt_or_ge m k with h | h
          · exact ALL.out m h
          · obtain rfl : m = k := by omega
            exact fun h => H2.out h.2.1⟩
        case measure => simp [intOf]; omega
      have d2 : (E k 1 == pb) = true := by simp [h2]
      have H2 := Lib.hid h2
      clear h2
      by_cases h3 : E k 2 ≤ tb - ta
      rotate_left
      · have d3 : decide (E k 2 ≤ tb - ta) = false := by simp; omega
        have n3 : tb - ta < E k 2 := by omega
        clear h3
        go_wp2_with fail
        go_roundw
        case rel => exact ⟨k + 1, by omega, by go_num, hBy, fun m hm => by
          rcases Nat.lt_or_ge m k with h | h
          · exact ALL.out m h
          · obtain rfl : m = k := by omega
            exact fun h => by have := h.2.2.1; omega⟩
        case measure => simp [intOf]; omega
      by_cases h4 : tb - ta ≤ E k 3
      rotate_left
      · have d4 : decide (tb - ta ≤ E k 3) = false := by simp; omega
        have n4 : E k 3 < tb - ta := by omega
        clear h4
        go_wp2_with fail
        go_roundw
        case rel => exact ⟨k + 1, by omega, by go_num, hBy, fun m hm => by
          rcases Nat.lt_or_ge m k with h | h
          · exact ALL.out m h
          · obtain rfl : m = k := by omega
            exact fun h => by have := h.2.2.2; omega⟩
        case measure => simp [intOf]; omega
      go_wp2_with fail
      go_returns
      exact ⟨ret_bool (by rw [← HV.out]; exact (decide_eq_true (.inr ⟨k, hlt, H1.out, H2.out, h3, h4⟩)).symm), below_step hB hBy⟩
  have dpp : (pa == pb) = true := by simp [hpp]
  have HP := Lib.hid hpp
  clear hpp
  by_cases hdd : ta < tb
  rotate_left
  · have ddd : decide (ta < tb) = false := by simp; omega
    have HD := Lib.hid hdd
    clear hdd
    go_enter Try.func46, Try.ntmps46
    go_wp2_with fail
    refine wp_named fun W hW => ?_
    obtain ⟨p1, p2, p3, hB⟩ := box3 hW
    clear hW
    have hB0 := Below.refl W.heap.size W
    have P1 := Lib.hid p1
    have P2 := Lib.hid p2
    have P3 := Lib.hid p3
    clear p1 p2 p3
    go_loopw [7] (fun i wr => ∃ k : Nat, k ≤ ne ∧ i = .int .i64 k ∧ Below W.heap.size W wr ∧ ∀ m, m < k → ¬ SailOk (E m) pa pb (tb - ta)) (fun i _ => ne - (intOf i).toNat)
    case atStart => exact ⟨0, by omega, rfl, hB0, fun m hm => by omega⟩
    case round =>
      obtain ⟨k, hk, rfl, hbr, hall⟩ := hrel
      have ALL := Lib.hid hall
      clear hall
      have q1 := cellsL P1.out
      by_cases hlt : k < ne
      rotate_left
      · obtain rfl : k = ne := by omega
        go_wp2_with fail
        go_returns
        exact ⟨ret_bool (by rw [← HV.out]; exact (decide_eq_false (fun h => by
          rcases h with h | ⟨i, hi, h⟩
          · have := HD.out; have := h.2; omega
          · exact ALL.out i hi h)).symm), below_step hB hbr⟩
      obtain ⟨g, o, rfl, hc⟩ := HE.out.row hlt
      have c0 := cell_later (below_step hB hbr) (hc 0 (by omega))
      have c1 := cell_later (below_step hB hbr) (hc 1 (by omega))
      have c2' := cell_later (below_step hB hbr) (hc 2 (by omega))
      have c3 := cell_later (below_step hB hbr) (hc 3 (by omega))
      simp only [Nat.add_zero] at c0
      clear hc
      go_upto_region 7 with (fail)
      refine wp_named fun y hy => ?_
      obtain ⟨pe, hby⟩ := box1 hy
      have hBy := below_step hbr hby
      clear hy c0 c1 c2' c3 q1
      have qe := cell_block pe
      have q2 := cell_block (block_later hBy P2.out)
      have q3 := cell_block (block_later hBy P3.out)
      clear pe
      by_cases h1 : E k 0 = pa
      rotate_left
      · have d1 : (E k 0 == pa) = false := by simp [h1]
        have H1 := Lib.hid h1
        clear h1
        go_wp2_with fail
        go_roundw
        case rel => exact ⟨k + 1, by omega, by go_num, hBy, fun m hm => by
          rcases Nat.lt_or_ge m k with h | h
          · exact ALL.out m h
          · obtain rfl : m = k := by omega
            exact fun h => H1.out h.1⟩
        case measure => simp [intOf]; omega
      have d1 : (E k 0 == pa) = true := by simp [h1]
      have H1 := Lib.hid h1
      clear h1
      by_cases h2 : E k 1 = pb
      rotate_left
      · have d2 : (E k 1 == pb) = false := by simp [h2]
        have H2 := Lib.hid h2
        clear h2
        go_wp2_with fail
        go_roundw
        case rel => exact ⟨k + 1, by omega, by go_num, hBy, fun m hm => by
          rcases Nat.lt_or_ge m k with h | h
          · exact ALL.out m h
          · obtain rfl : m = k := by omega
            exact fun h => H2.out h.2.1⟩
        case measure => simp [intOf]; omega
      have d2 : (E k 1 == pb) = true := by simp [h2]
      have H2 := Lib.hid h2
      clear h2
      by_cases h3 : E k 2 ≤ tb - ta
      rotate_left
      · have d3 : decide (E k 2 ≤ tb - ta) = false := by simp; omega
        have n3 : tb - ta < E k 2 := by omega
        clear h3
        go_wp2_with fail
        go_roundw
        case rel => exact ⟨k + 1, by omega, by go_num, hBy, fun m hm => by
          rcases Nat.lt_or_ge m k with h | h
          · exact ALL.out m h
          · obtain rfl : m = k := by omega
            exact fun h => by have := h.2.2.1; omega⟩
        case measure => simp [intOf]; omega
      by_cases h4 : tb - ta ≤ E k 3
      rotate_left
      · have d4 : decide (tb - ta ≤ E k 3) = false := by simp; omega
        have n4 : E k 3 < tb - ta := by omega
        clear h4
        go_wp2_with fail
        go_roundw
        case rel => exact ⟨k + 1, by omega, by go_num, hBy, fun m hm => by
          rcases Nat.lt_or_ge m k with h | h
          · exact ALL.out m h
          · obtain rfl : m = k := by omega
            exact fun h => by have := h.2.2.2; omega⟩
        case measure => simp [intOf]; omega
      go_wp2_with fail
      go_returns
      exact ⟨ret_bool (by rw [← HV.out]; exact (decide_eq_true (.inr ⟨k, hlt, H1.out, H2.out, h3, h4⟩)).symm), below_step hB hBy⟩
  go_enter Try.func46, Try.ntmps46
  go_wp2_with fail
  go_returns
  exact ⟨ret_bool (by rw [← HV.out]; exact (decide_eq_true (.inl ⟨HP.out, hdd⟩)).symm), by go_grown⟩
set_option maxHeartbeats 4000000 in
theorem q33Track_any (np c ne c2 nl c3 : Nat) (ad ad2 ad3 : Option Addr) (X E L : Nat → Nat → Int) (w : World) (hX : Rows 2 w (.slice ad np c) np X) (hE : Rows 4 w (.slice ad2 ne c2) ne E) (hL : Rows 2 w (.slice ad3 nl c3) nl L) (hn1 : np ≤ 9223372036854775807) (hn2 : ne ≤ 9223372036854775807) (hn3 : nl ≤ 9223372036854775807) {v : Bool} (hv : decide (TrackOk np X ne E nl L) = v) :
    Calls Try.prog 17 #[.agg #[.slice ad np c, .slice ad2 ne c2], .slice ad3 nl c3] w fun e w' => e = .returned (.bool v) ∧ Below w.heap.size w w' := by
  have HX := Lib.hid hX
  have HE := Lib.hid hE
  have HL := Lib.hid hL
  have HV := Lib.hid hv
  clear hX hE hL hv
  obtain ⟨v1, gv1⟩ : ∃ v1, decide (NetOk np X ne E) = v1 := ⟨_, rfl⟩
  have V1 := Lib.hid gv1
  clear gv1
  go_enter Try.func17, Try.ntmps17
  go_wp2_with fail
  refine calls_named fun W hW => ?_
  obtain ⟨p1, hB⟩ := box1 hW
  clear hW
  have q1 := cellsL p1
  have hB0 := Below.refl W.heap.size W
  have P1 := Lib.hid p1
  clear p1
  (with_reducible refine (q33Valid_any _ _ _ _ _ _ _ _ _ (HX.out.later hB) (HE.out.later hB) hn1 hn2 V1.out).mono ?_)
  rintro e w1 ⟨rfl, hb1⟩
  have hB1 := below_step hB0 hb1
  cases v1
  · go_wp2_with fail
    go_returns
    exact ⟨ret_bool (by rw [← HV.out]; exact (decide_eq_false (fun h => of_decide_eq_false V1.out h.1)).symm), below_step hB hB1⟩
  by_cases h1 : nl = 0
  · subst h1
    go_wp2_with fail
    go_returns
    exact ⟨ret_bool (by rw [← HV.out]; exact (decide_eq_false (fun h => by have := h.2.1; omega)).symm), below_step hB hB1⟩
  have d1 : decide ((nl : Int) < 1) = false := by simp; omega
  have f1 : decide (nl < 1) = false := by simp; omega
  have n1 : 1 ≤ nl := by omega
  by_cases h2 : 1000 < nl
  · have e2 : (1000 : Int) < (nl : Int) := by omega
    go_wp2_with fail
    go_returns
    exact ⟨ret_bool (by rw [← HV.out]; exact (decide_eq_false (fun h => by have := h.2.2.1; omega)).symm), below_step hB hB1⟩
  have d2 : decide (1000 < nl) = false := by simp; omega
  have e2 : decide ((1000 : Int) < (nl : Int)) = false := by simp; omega
  have n2 : nl ≤ 1000 := by omega
  clear h1 h2
  go_wp2_with fail
  clear q1
  go_loopw [6] (fun i wr => ∃ k : Nat, k ≤ nl ∧ i = .int .i64 k ∧ Below W.heap.size W wr ∧ StopsOk np ne E k L) (fun i _ => nl - (intOf i).toNat)
  case atStart => exact ⟨0, by omega, rfl, hB1, ⟨fun m hm => by omega, fun m hm => by omega⟩⟩
  case round =>
    obtain ⟨k, hk, rfl, hbr, hall⟩ := hrel
    have ALL := Lib.hid hall
    clear hall
    by_cases hlt : k < nl
    rotate_left
    · obtain rfl : k = nl := by omega
      go_wp2_with fail
      go_returns
      exact ⟨ret_bool (by rw [← HV.out]; exact (decide_eq_true ⟨of_decide_eq_true V1.out, by omega, by omega, ALL.out⟩).symm), below_step hB hbr⟩
    obtain ⟨g, o, rfl, hc⟩ := HL.out.row hlt
    have C0 := Lib.hid (hc 0 (by omega))
    have C1 := Lib.hid (hc 1 (by omega))
    clear hc
    obtain ⟨v2, gv2⟩ : ∃ v2, decide (0 ≤ L k 0 ∧ L k 0 < (np : Int)) = v2 := ⟨_, rfl⟩
    have V2 := Lib.hid gv2
    clear gv2
    go_wp2_with fail
    have q1 := cellsR (block_later hbr P1.out)
    have c0 := fun d os => cell_later (below_regrown wr d os) (cell_later (below_step hB hbr) C0.out)
    simp only [Nat.add_zero] at c0
    (refine wp_region_quiet_below (by kernel_rfl) (by kernel_rfl) ?_; (repeat (refine wpQuiet_step (fun K hK => ?_); replace hK := Lib.hid hK; go_simp; first | (refine hK.out _ ?_; clear hK K) | (apply Exists.intro; refine ⟨fun _ => ?_, hK.out _ ?_⟩; ((go_at_call 34; exact Calls.regrown_of (q33Place_any _ _ _ _ _ _ _ _ hn1 V2.out))); clear hK K))); refine wpQuiet_nil ?_)
    intro w2 hr2
    have hB2 := below_step hbr (regrown_below hr2)
    clear hr2 q1 c0
    have c1 := cell_later (below_step hB hB2) C1.out
    cases v2
    · go_wp2_with fail
      go_returns
      exact ⟨ret_bool (by rw [← HV.out]; exact (decide_eq_false (fun h => of_decide_eq_false V2.out (h.2.2.2.1 k hlt).1)).symm), below_step hB hB2⟩
    by_cases h2 : L k 1 < -1000
    · go_wp2_with fail
      go_returns
      exact ⟨ret_bool (by rw [← HV.out]; exact (decide_eq_false (fun h => by have := (h.2.2.2.1 k hlt).2.1; omega)).symm), below_step hB hB2⟩
    have d2 : decide (L k 1 < -1000) = false := by simp; omega
    have n2 : -1000 ≤ L k 1 := by omega
    clear h2
    by_cases h3 : 10000000 < L k 1
    · go_wp2_with fail
      go_returns
      exact ⟨ret_bool (by rw [← HV.out]; exact (decide_eq_false (fun h => by have := (h.2.2.2.1 k hlt).2.2; omega)).symm), below_step hB hB2⟩
    have d3 : decide (10000000 < L k 1) = false := by simp; omega
    have n3 : L k 1 ≤ 10000000 := by omega
    clear h3
    have SK : StopOk np (L k) := ⟨of_decide_eq_true V2.out, by omega, by omega⟩
    have SO := Lib.hid SK
    clear SK
    rcases Nat.eq_zero_or_pos k with hk0 | hk0
    · subst hk0
      go_wp2_with fail
      clear c1
      (refine wp_region_quiet_below (by kernel_rfl) (by kernel_rfl) ?_; (repeat (refine wpQuiet_step (fun K hK => ?_); replace hK := Lib.hid hK; go_simp; first | (refine hK.out _ ?_; clear hK K) | (apply Exists.intro; refine ⟨fun _ => ?_, hK.out _ ?_⟩; (fail); clear hK K))); refine wpQuiet_nil ?_)
      intro w3 hr3
      have hB3 := below_step hB2 (regrown_below hr3)
      clear hr3
      go_wp2_with fail
      go_roundw
      case rel => exact ⟨0 + 1, by omega, by go_num, hB3, stopsOk_snoc ALL.out SO.out (fun m hm => by omega)⟩
      case measure => simp [intOf]; omega
    obtain ⟨m, rfl⟩ : ∃ m, k = m + 1 := ⟨k - 1, by omega⟩
    obtain ⟨g2, o2, hg2, hc⟩ := HL.out.row (show m < nl by omega)
    obtain ⟨rfl, rfl⟩ : g = g2 ∧ o = o2 := by simpa using hg2
    have D0 := Lib.hid (hc 0 (by omega))
    have D1 := Lib.hid (hc 1 (by omega))
    have S2 := ALL.out.1 m (by omega)
    obtain ⟨-, s21, s22⟩ := S2
    clear hc hg2
    obtain ⟨bb, hbb⟩ : ∃ bb, decide (LeadsOk ne E (L m 0) (L m 1) (L (m + 1) 0) (L (m + 1) 1)) = bb := ⟨_, rfl⟩
    have BB := Lib.hid hbb
    clear hbb
    have CF := Lib.hid (fun w' hb => q33leads_any np c ne c2 ad ad2 E (L m 0) (L m 1) (L (m + 1) 0) (L (m + 1) 1) w' (HE.out.later (below_step hB hb)) hn2 s21 s22 (by omega) (by omega) BB.out)
    go_wp2_with fail
    clear c1
    have q1 := cellsR (block_later hB2 P1.out)
    have c0 := fun d os => cell_later (below_regrown w2 d os) (cell_later (below_step hB hB2) C0.out)
    have c1 := fun d os => cell_later (below_regrown w2 d os) (cell_later (below_step hB hB2) C1.out)
    have c4 := fun d os => cell_later (below_regrown w2 d os) (cell_later (below_step hB hB2) D0.out)
    have c5 := fun d os => cell_later (below_regrown w2 d os) (cell_later (below_step hB hB2) D1.out)
    simp only [Nat.add_zero] at c0 c4
    have jg : (0 : Int) < (m : Int) + 1 := by omega
    have js : IntKind.i64.wrap (m : Int) = (m : Int) := IntWalk.i64_in _ (by omega)
    have js' : IntKind.i64.wrap ((m : Int) + 1 - 1) = (m : Int) := by rw [IntWalk.i64_in _ (by omega)]; omega
    have jn : ((m : Int) + 1).toNat = m + 1 := by omega
    have jl : (m : Int) + 1 < (nl : Int) := by omega
    have jp : 0 ≤ (m : Int) + 1 := by omega
    have jli : (m : Int) < (nl : Int) := by omega
    have jln : m < nl := by omega
    (refine wp_region_quiet_below (by kernel_rfl) (by kernel_rfl) ?_; (repeat (refine wpQuiet_step (fun K hK => ?_); replace hK := Lib.hid hK; go_simp; first | (refine hK.out _ ?_; clear hK K) | (apply Exists.intro; refine ⟨fun _ => ?_, hK.out _ ?_⟩; ((go_at_call 46; exact Calls.regrown_of (CF.out _ (below_step hB2 (below_regrown _ _ _))))); clear hK K))); refine wpQuiet_nil ?_)
    intro w3 hr3
    have hB3 := below_step hB2 (regrown_below hr3)
    clear hr3 q1 c0 c1 c4 c5 js js' jn CF
    cases bb
    · go_wp2_with fail
      go_returns
      exact ⟨ret_bool (by rw [← HV.out]; exact (decide_eq_false (fun h => of_decide_eq_false BB.out (h.2.2.2.2 m (by omega)))).symm), below_step hB hB3⟩
    · go_wp2_with fail
      go_roundw
      case rel => exact ⟨m + 1 + 1, by omega, by go_num, hB3, stopsOk_step ALL.out SO.out (of_decide_eq_true BB.out)⟩
      case measure => simp [intOf]; omega
end Go.Proofs.Ytcpnkhiillgffaa
