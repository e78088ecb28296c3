/- The walks of areas, and of whether the integers of a row are enough, in the program and in the reference. -/
import Derived.Test.YtcpnkhiillgffaaReachE
namespace Go.Proofs.Ytcpnkhiillgffaa
open Go.RowKit
attribute [local go_sem] bqOp bqAll bqUpon
attribute [local irreducible] wpQuiet wpBQ
set_option linter.unusedVariables false
def AreaOk (np m : Nat) (Y : Nat → Nat → Int) : Prop := ∀ i, i < m → (0 ≤ Y i 0 ∧ Y i 0 < (np : Int)) ∧ (0 < i → Y (i - 1) 0 < Y i 0)
instance (np m : Nat) (Y : Nat → Nat → Int) : Decidable (AreaOk np m Y) := by unfold AreaOk; exact inferInstance
theorem areaOk_snoc {np k : Nat} {Y : Nat → Nat → Int} (h : AreaOk np k Y) (h1 : 0 ≤ Y k 0 ∧ Y k 0 < (np : Int)) (h2 : 0 < k → Y (k - 1) 0 < Y k 0) : AreaOk np (k + 1) Y := fun i hi => by
  rcases Nat.lt_or_ge i k with g | g
  · exact h i g
  · obtain rfl : i = k := by omega
    exact ⟨h1, h2⟩
theorem Rows.int {w : World} {ad : Option Addr} {c n : Nat} {X : Nat → Nat → Int} (h : Rows 1 w (.slice ad n c) n X) {i : Nat} (hi : i < n) : ∃ g o, ad = some ⟨g, o, none⟩ ∧ w.cell? ⟨g, o + i, none⟩ = some (.int .i64 (X i 0)) := by
  obtain ⟨g, o, hg, hc⟩ := h.row hi
  have := hc 0 (by omega)
  simp only [Nat.mul_one, Nat.add_zero] at this
  exact ⟨g, o, hg, this⟩
set_option maxHeartbeats 1000000 in
theorem hIsArea_any (np c ne c2 m c3 : Nat) (ad ad2 ad3 : Option Addr) (Y : Nat → Nat → Int) (w : World) (hY : Rows 1 w (.slice ad3 m c3) m Y) (hn1 : np ≤ 9223372036854775807) (hn3 : m ≤ 9223372036854775807) {v : Bool} (hv : decide (AreaOk np m Y) = v) :
    Calls Try.prog 59 #[.agg #[.slice ad np c, .slice ad2 ne c2], .slice ad3 m c3] w fun e w' => e = .returned (.bool v) ∧ Below w.heap.size w w' := by
  have HY := Lib.hid hY
  have HV := Lib.hid hv
  clear hY hv
  go_enter Try.func59, Try.ntmps59
  go_wp2_with fail
  refine wp_named fun W hW => ?_
  obtain ⟨p1, hB⟩ := box1 hW
  clear hW
  have P1 := Lib.hid p1
  clear p1
  go_loopw [9] (fun i wr => ∃ k : Nat, k ≤ m ∧ i = .int .i64 k ∧ Below W.heap.size W wr ∧ AreaOk np k Y) (fun i _ => m - (intOf i).toNat)
  case atStart => exact ⟨0, by omega, rfl, Below.refl _ _, fun i hi => by omega⟩
  case round =>
    obtain ⟨k, hk, rfl, hbr, hall⟩ := hrel
    have ALL := Lib.hid hall
    clear hall
    by_cases hlt : k < m
    rotate_left
    · obtain rfl : k = m := by omega
      go_wp2_with fail
      go_returns
      exact ⟨ret_bool (by rw [← HV.out]; exact (decide_eq_true ALL.out).symm), below_step hB hbr⟩
    obtain ⟨g, o, rfl, hc⟩ := HY.out.int hlt
    have C0 := Lib.hid hc
    clear hc
    obtain ⟨v1, g1⟩ : ∃ v1, decide (0 ≤ Y k 0 ∧ Y k 0 < (np : Int)) = v1 := ⟨_, rfl⟩
    have V1 := Lib.hid g1
    clear g1
    have c0 := cell_later (below_step hB hbr) C0.out
    have q1 := cellsL P1.out
    go_wp2_with fail
    (with_reducible refine (hIsPlace_any _ _ _ _ _ _ _ _ hn1 V1.out).mono ?_)
    rintro e w1 ⟨rfl, hb1⟩
    have hB1 := below_step hbr hb1
    clear c0
    cases v1
    · go_wp2_with fail
      go_returns
      exact ⟨ret_bool (by rw [← HV.out]; exact (decide_eq_false (fun h => of_decide_eq_false V1.out (h k hlt).1)).symm), below_step hB hB1⟩
    rcases Nat.eq_zero_or_pos k with hk0 | hk0
    · subst hk0
      go_wp2_with fail
      go_roundw
      case rel => exact ⟨0 + 1, by omega, by go_num, hB1, areaOk_snoc ALL.out (of_decide_eq_true V1.out) (fun h => by omega)⟩
      case measure => simp [intOf]; omega
    obtain ⟨q, rfl⟩ : ∃ q, k = q + 1 := ⟨k - 1, by omega⟩
    obtain ⟨g2, o2, hg2, hc⟩ := HY.out.int (show q < m by omega)
    obtain ⟨rfl, rfl⟩ : g = g2 ∧ o = o2 := by simpa using hg2
    have c0 := cell_later (below_step hB hB1) hc
    clear hc hg2
    have jg : (0 : Int) < (q : Int) + 1 := by omega
    have js : IntKind.i64.wrap (q : Int) = (q : Int) := IntWalk.i64_in _ (by omega)
    have js' : IntKind.i64.wrap ((q : Int) + 1 - 1) = (q : Int) := by rw [IntWalk.i64_in _ (by omega)]; omega
    have jn : ((q : Int) + 1).toNat = q + 1 := by omega
    have jl : (q : Int) + 1 < (m : Int) := by omega
    have jp : 0 ≤ (q : Int) + 1 := by omega
    have jli : (q : Int) < (m : Int) := by omega
    have jln : q < m := by omega
    by_cases hbad : Y (q + 1) 0 ≤ Y q 0
    · go_wp2_with fail
      go_returns
      exact ⟨ret_bool (by rw [← HV.out]; exact (decide_eq_false (fun h => by have := (h (q + 1) hlt).2 (by omega); simp only [Nat.add_sub_cancel] at this; omega)).symm), below_step hB hB1⟩
    have db : decide (Y (q + 1) 0 ≤ Y q 0) = false := by simp; omega
    go_wp2_with fail
    go_roundw
    case rel => exact ⟨q + 1 + 1, by omega, by go_num, hB1, areaOk_snoc ALL.out (of_decide_eq_true V1.out) (fun _ => by simp only [Nat.add_sub_cancel]; omega)⟩
    case measure => simp [intOf]; omega
set_option maxHeartbeats 1000000 in
theorem q33Area_any (np c ne c2 m c3 : Nat) (ad ad2 ad3 : Option Addr) (Y : Nat → Nat → Int) (w : World) (hY : Rows 1 w (.slice ad3 m c3) m Y) (hn1 : np ≤ 9223372036854775807) (hn3 : m ≤ 9223372036854775807) {v : Bool} (hv : decide (AreaOk np m Y) = v) :
    Calls Try.prog 63 #[.agg #[.slice ad np c, .slice ad2 ne c2], .slice ad3 m c3] w fun e w' => e = .returned (.bool v) ∧ Below w.heap.size w w' := by
  have HY := Lib.hid hY
  have HV := Lib.hid hv
  clear hY hv
  go_enter Try.func63, Try.ntmps63
  go_wp2_with fail
  refine wp_named fun W hW => ?_
  obtain ⟨p1, hB⟩ := box1 hW
  clear hW
  have P1 := Lib.hid p1
  clear p1
  go_loopw [5] (fun i wr => ∃ k : Nat, k ≤ m ∧ i = .int .i64 k ∧ Below W.heap.size W wr ∧ AreaOk np k Y) (fun i _ => m - (intOf i).toNat)
  case atStart => exact ⟨0, by omega, rfl, Below.refl _ _, fun i hi => by omega⟩
  case round =>
    obtain ⟨k, hk, rfl, hbr, hall⟩ := hrel
    have ALL := Lib.hid hall
    clear hall
    by_cases hlt : k < m
    rotate_left
    · obtain rfl : k = m := by omega
      go_wp2_with fail
      go_returns
      exact ⟨ret_bool (by rw [← HV.out]; exact (decide_eq_true ALL.out).symm), below_step hB hbr⟩
    obtain ⟨g, o, rfl, hc⟩ := HY.out.int hlt
    have C0 := Lib.hid hc
    clear hc
    obtain ⟨v1, g1⟩ : ∃ v1, decide (0 ≤ Y k 0 ∧ Y k 0 < (np : Int)) = v1 := ⟨_, rfl⟩
    have V1 := Lib.hid g1
    clear g1
    go_wp2_with fail
    have q1 := cellsR (block_later hbr P1.out)
    have c0 := fun d os => cell_later (below_regrown wr d os) (cell_later (below_step hB hbr) C0.out)
    (refine wp_region_quiet_below (by kernel_rfl) (by kernel_rfl) ?_; (repeat (refine wpQuiet_step (fun K hK => ?_); replace hK := Lib.hid hK; go_simp; first | (refine hK.out _ ?_; clear hK K) | (apply Exists.intro; refine ⟨fun _ => ?_, hK.out _ ?_⟩; ((go_at_call 34; exact Calls.regrown_of (q33Place_any _ _ _ _ _ _ _ _ hn1 V1.out))); clear hK K))); refine wpQuiet_nil ?_)
    intro w1 hr1
    have hB1 := below_step hbr (regrown_below hr1)
    clear hr1 q1 c0
    go_wp2_with fail
    have c0 := fun d os => cell_later (below_regrown w1 d os) (cell_later (below_step hB hB1) C0.out)
    cases v1
    · (refine wp_region_quiet_below (by kernel_rfl) (by kernel_rfl) ?_; (repeat (refine wpQuiet_step (fun K hK => ?_); replace hK := Lib.hid hK; go_simp; first | (refine hK.out _ ?_; clear hK K) | (apply Exists.intro; refine ⟨fun _ => ?_, hK.out _ ?_⟩; (fail); clear hK K))); refine wpQuiet_nil ?_)
      intro w2 hr2
      have hB2 := below_step hB1 (regrown_below hr2)
      clear hr2 c0
      go_wp2_with fail
      go_returns
      exact ⟨ret_bool (by rw [← HV.out]; exact (decide_eq_false (fun h => of_decide_eq_false V1.out (h k hlt).1)).symm), below_step hB hB2⟩
    rcases Nat.eq_zero_or_pos k with hk0 | hk0
    · subst hk0
      (refine wp_region_quiet_below (by kernel_rfl) (by kernel_rfl) ?_; (repeat (refine wpQuiet_step (fun K hK => ?_); replace hK := Lib.hid hK; go_simp; first | (refine hK.out _ ?_; clear hK K) | (apply Exists.intro; refine ⟨fun _ => ?_, hK.out _ ?_⟩; (fail); clear hK K))); refine wpQuiet_nil ?_)
      intro w2 hr2
      have hB2 := below_step hB1 (regrown_below hr2)
      clear hr2 c0
      go_wp2_with fail
      go_roundw
      case rel => exact ⟨0 + 1, by omega, by go_num, hB2, areaOk_snoc ALL.out (of_decide_eq_true V1.out) (fun h => by omega)⟩
      case measure => simp [intOf]; omega
    obtain ⟨q, rfl⟩ : ∃ q, k = q + 1 := ⟨k - 1, by omega⟩
    obtain ⟨g2, o2, hg2, hc⟩ := HY.out.int (show q < m by omega)
    obtain ⟨rfl, rfl⟩ : g = g2 ∧ o = o2 := by simpa using hg2
    have c1 := fun d os => cell_later (below_regrown w1 d os) (cell_later (below_step hB hB1) hc)
    clear hc hg2
    have jg : (0 : Int) < (q : Int) + 1 := by omega
    have js : IntKind.i64.wrap (q : Int) = (q : Int) := IntWalk.i64_in _ (by omega)
    have js' : IntKind.i64.wrap ((q : Int) + 1 - 1) = (q : Int) := by rw [IntWalk.i64_in _ (by omega)]; omega
    have jn : ((q : Int) + 1).toNat = q + 1 := by omega
    have jl : (q : Int) + 1 < (m : Int) := by omega
    have jp : 0 ≤ (q : Int) + 1 := by omega
    have jli : (q : Int) < (m : Int) := by omega
    have jln : q < m := by omega
    by_cases hbad : Y (q + 1) 0 ≤ Y q 0
    · (refine wp_region_quiet_below (by kernel_rfl) (by kernel_rfl) ?_; (repeat (refine wpQuiet_step (fun K hK => ?_); replace hK := Lib.hid hK; go_simp; first | (refine hK.out _ ?_; clear hK K) | (apply Exists.intro; refine ⟨fun _ => ?_, hK.out _ ?_⟩; (fail); clear hK K))); refine wpQuiet_nil ?_)
      intro w2 hr2
      have hB2 := below_step hB1 (regrown_below hr2)
      clear hr2 c0 c1 js js' jn
      go_wp2_with fail
      go_returns
      exact ⟨ret_bool (by rw [← HV.out]; exact (decide_eq_false (fun h => by have := (h (q + 1) hlt).2 (by omega); simp only [Nat.add_sub_cancel] at this; omega)).symm), below_step hB hB2⟩
    have db : decide (Y (q + 1) 0 ≤ Y q 0) = false := by simp; omega
    (refine wp_region_quiet_below (by kernel_rfl) (by kernel_rfl) ?_; (repeat (refine wpQuiet_step (fun K hK => ?_); replace hK := Lib.hid hK; go_simp; first | (refine hK.out _ ?_; clear hK K) | (apply Exists.intro; refine ⟨fun _ => ?_, hK.out _ ?_⟩; (fail); clear hK K))); refine wpQuiet_nil ?_)
    intro w2 hr2
    have hB2 := below_step hB1 (regrown_below hr2)
    clear hr2 c0 c1 js js' jn
    go_wp2_with fail
    go_roundw
    case rel => exact ⟨q + 1 + 1, by omega, by go_num, hB2, areaOk_snoc ALL.out (of_decide_eq_true V1.out) (fun _ => by simp only [Nat.add_sub_cancel]; omega)⟩
    case measure => simp [intOf]; omega
def EnoughOk (m : Nat) (Y : Nat → Nat → Int) (R : Nat → Int) (need : Int) : Prop := ∀ i, i < m → need ≤ R (Y i 0).toNat
instance (m : Nat) (Y : Nat → Nat → Int) (R : Nat → Int) (need : Int) : Decidable (EnoughOk m Y R need) := by unfold EnoughOk; exact inferInstance
theorem hEnough1_any (p nr c need : Nat) (needI : Int) (ad : Option Addr) (R : Nat → Int) (b1 b2 : Nat) (w : World) (hR : Rows 1 w (.slice ad nr c) nr (fun i _ => R i)) (hp : p < nr) (hn : nr ≤ 9223372036854775807)
    (h1 : w.heap[b1]? = some (.cells #[.slice ad nr c] 28)) (h2 : w.heap[b2]? = some (.cells #[.int .i64 needI] 3)) {v : Bool} (hv : decide (R p < needI) = v) :
    Calls Try.prog 92 #[.int .i64 (p : Int), .pointer (some ⟨b1, 0, none⟩), .pointer (some ⟨b2, 0, none⟩)] w fun e w' => e = .returned (.bool v) ∧ Below w.heap.size w w' := by
  obtain ⟨g, o, rfl, hc⟩ := hR.int hp
  have q1 := cellsR h1
  have q2 := cellsR h2
  have c0 := fun d os => cell_later (below_regrown w d os) hc
  have HV := Lib.hid hv
  clear hv h1 h2 hc hR
  go_enter Try.func92, Try.ntmps92
  go_wp2_with fail
  (refine wp_region_quiet_below (by kernel_rfl) (by kernel_rfl) ?_; (repeat (refine wpQuiet_step (fun K hK => ?_); replace hK := Lib.hid hK; go_simp; first | (refine hK.out _ ?_; clear hK K) | (apply Exists.intro; refine ⟨fun _ => ?_, hK.out _ ?_⟩; (fail); clear hK K))); refine wpQuiet_nil ?_)
  intro w1 hr1
  have hB1 := regrown_below hr1
  clear hr1 q1 q2 c0
  go_wp2_with fail
  go_returns
  exact ⟨ret_bool HV.out, hB1⟩
end Go.Proofs.Ytcpnkhiillgffaa
