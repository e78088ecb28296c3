/- For any station, times and number: the statement StationSlots of chapter 31 (the times of the slots; the slots of a time and those of its two parts): the law's function returns true and leaves its arguments as they were. No condition. -/
import Derived.Test.YtnidacjmgekdjaaStationHead
import Derived.Test.YtnidacjmgekdjaaStationK
import Derived.Test.YtnidacjmgekdjaaFrameS
namespace Go.Proofs.Ytnidacjmgekdjaa
open Go.ChangeShapes Go.WideShapes Go.ChangeAt Go.RowKit
set_option linter.unusedVariables false
theorem slot_next {id ax ay dr nr fi ev k t e v f : Int} (h : slotR id ax ay dr nr fi ev k = (t, e)) (h1 : slotR id ax ay dr nr fi ev (k + 1) = (v, f)) (he : e = 0) : Stn id ax ay dr nr fi ev ∧ (f = 0 ∧ v = t + ev ∨ f = 3 ∧ 10000000 < t + ev) ∧ fi ≤ t ∧ t ≤ 10000000 := by
  unfold slotR at h h1
  split at h
  · rename_i g
    have z := g.1.e1
    split at h
    · cases h
      rw [if_pos ⟨g.1, by omega⟩] at h1
      have e1 : fi + (k + 1) * ev = fi + k * ev + ev := by rw [Int.add_mul, Int.one_mul]; omega
      rw [e1] at h1
      have := Int.mul_nonneg g.2 (show 0 ≤ ev by omega)
      refine ⟨g.1, ?_, by omega, by omega⟩
      split at h1 <;> cases h1
      · exact .inl ⟨rfl, rfl⟩
      · exact .inr ⟨rfl, by omega⟩
    · cases h; omega
  · cases h; omega
theorem slotR_e {id ax ay dr nr fi ev k t e : Int} (h : slotR id ax ay dr nr fi ev k = (t, e)) : e = 0 → 0 ≤ k ∧ k ≤ 10000000 := by
  unfold slotR at h
  split at h
  · rename_i g
    have z := g.1.e1
    have z2 := g.1.f1
    have := Int.mul_le_mul_of_nonneg_left (c := k) z g.2
    split at h <;> cases h <;> omega
  · cases h; omega
/-- The slots of two times that follow one another, and those of both. -/
theorem slots_join {id ax ay dr nr fi ev x y z a b e c d f l m g : Int} (h1 : slotsR id ax ay dr nr fi ev x y = (a, b, e)) (h2 : slotsR id ax ay dr nr fi ev y z = (c, d, f)) (h3 : slotsR id ax ay dr nr fi ev x z = (l, m, g)) :
    e = 1 ∨ e ≠ 1 ∧ f = 1 ∨ e = 0 ∧ f = 0 ∧ g = 0 ∧ c = b + 1 ∧ l = a ∧ m = d ∧ -1 ≤ b ∧ b ≤ 100000000 ∨ e = 0 ∧ f = 4 ∧ g = 0 ∧ l = a ∧ m = b ∨ e = 4 ∧ f = 0 ∧ g = 0 ∧ l = c ∧ m = d ∨ e = 4 ∧ f = 4 ∧ g = 4 := by
  unfold slotsR at h1 h2 h3
  split at h1
  · rename_i k1
    split at h2
    · rename_i k2
      have z0 := k1.1.e1
      have z1 := k1.1.e2
      rw [if_pos ⟨k1.1, k1.2.1, k2.2.2.1, by have := k1.2.2.2; have := k2.2.2.2; omega⟩] at h3
      have m1 := ahead_mono (fi := fi) z0 k1.2.2.2
      have m2 := ahead_mono (fi := fi) z0 k2.2.2.2
      have b1 := aheadI_bd (t := x) k1.1.f1 k1.2.1.2 z0 z1
      have b2 := aheadI_bd (t := y) k1.1.f1 k1.2.2.1.2 z0 z1
      split at h1 <;> split at h2 <;> split at h3 <;> cases h1 <;> cases h2 <;> cases h3 <;> omega
    · cases h2
      split at h1 <;> cases h1 <;> simp
  · cases h1; simp

set_option maxRecDepth 100000 in
set_option maxHeartbeats 1000000 in
theorem stationSlots_walk (id ax ay dr nr fi ev x y z k : Int) (w : World) :
    Calls Try.prog 7 #[.agg #[.int .i64 id, .int .i64 ax, .int .i64 ay, .int .i64 dr, .int .i64 nr, .int .i64 fi, .int .i64 ev], .int .i64 x, .int .i64 y, .int .i64 z, .int .i64 k] w fun e w' => e = .returned (.bool true) ∧ Below w.heap.size w w' := by
  obtain ⟨⟨t, e0⟩, h0⟩ : ∃ r, slotR id ax ay dr nr fi ev k = r := ⟨_, rfl⟩
  obtain ⟨⟨a, b, e⟩, h1⟩ : ∃ r, slotsR id ax ay dr nr fi ev x y = r := ⟨_, rfl⟩
  obtain ⟨⟨c, d, f⟩, h2⟩ : ∃ r, slotsR id ax ay dr nr fi ev y z = r := ⟨_, rfl⟩
  obtain ⟨⟨l, m, g⟩, h3⟩ : ∃ r, slotsR id ax ay dr nr fi ev x z = r := ⟨_, rfl⟩
  have hj := slots_join h1 h2 h3
  have J := Lib.hid hj
  have S1 := Lib.hid (fun w => sSlot_any id ax ay dr nr fi ev k w h0)
  have A1 := Lib.hid (fun w => sSlots_any id ax ay dr nr fi ev x y w h1)
  have A2 := Lib.hid (fun w => sSlots_any id ax ay dr nr fi ev y z w h2)
  have A3 := Lib.hid (fun w => sSlots_any id ax ay dr nr fi ev x z w h3)
  clear hj h1 h2 h3
  obtain ⟨k1, hk1⟩ : ∃ k1, wrap64 (k + 1) = k1 := ⟨_, rfl⟩
  obtain ⟨⟨v, e1⟩, h4⟩ : ∃ r, slotR id ax ay dr nr fi ev k1 = r := ⟨_, rfl⟩
  have hkn : k < 10000000 → e0 = 0 → k1 = k + 1 := fun h he => by
    have := slotR_e h0 he
    rw [← hk1]
    unfold wrap64
    omega
  have N := Lib.hid (fun h he => slot_next h0 (hkn h he ▸ h4) he)
  have S2 := Lib.hid (fun w => sSlot_any id ax ay dr nr fi ev k1 w h4)
  clear h0 h4 hkn

  go_enter Try.func7, Try.ntmps7
  go_wp2_with fail
  refine calls_named fun W hW => ?_
  obtain ⟨p1, hB⟩ := box1 hW
  clear hW
  have q1 := cellsL p1
  have P1 := Lib.hid p1
  clear p1
  (with_reducible refine (head_true _).mono ?_)
  rintro e w1 ⟨rfl, hB1⟩
  go_wp2_with fail
  (with_reducible refine (S1.out _).mono ?_)
  rintro e w2 ⟨rfl, hb2⟩
  have hB2 := below_step hB1 hb2
  go_wp2_with fail
  (with_reducible refine (S2.out _).mono ?_)
  rintro e w3 ⟨rfl, hb3⟩
  have hB3 := below_step hB2 hb3
  clear hb2 hb3 hk1
  obtain ⟨bb, hbb⟩ : ∃ bb, decide (e0 = 0 ∧ k < 10000000) = bb := ⟨_, rfl⟩
  have BB := Lib.hid hbb
  clear hbb
  go_upto_region 4 with (fail)
  go_cut [41] from 36 to 41 (fun s wx => s = .bool bb ∧ w3 = wx)
  case first =>
    by_cases he : e0 = 0
    · have h2 : (e0 == 0) = true := by simp [he]
      have HE := Lib.hid he
      clear he
      by_cases hkk : k < 10000000
      · go_wp2_with fail
        go_meet
        exact ⟨by rw [← BB.out]; simp [HE.out, hkk], rfl⟩
      · have h3 : decide (k < 10000000) = false := by simp; omega
        go_wp2_with fail
        go_meet
        exact ⟨by rw [← BB.out]; simp [hkk], rfl⟩
    · have h2 : (e0 == 0) = false := by simp [he]
      have HE := Lib.hid he
      clear he
      go_wp2_with fail
      go_meet
      exact ⟨by rw [← BB.out]; simp [HE.out], rfl⟩
  case rest =>
    obtain ⟨rfl, rfl⟩ := hcut
    go_upto_if 41 with (fail)
    go_cut [11] from 42 to 75 (fun s wx => s = .bool true ∧ w3 = wx)
    case first =>
      cases bb
      · go_wp2_with fail
        go_meet
        exact ⟨rfl, rfl⟩
      · have hc := of_decide_eq_true BB.out
        obtain ⟨m0, hm, m1, m2⟩ := N.out hc.2 hc.1
        have z3 := m0.e1
        have z4 := m0.e2
        have z5 := m0.f1
        clear hc m0
        rcases hm with ⟨rfl, rfl⟩ | ⟨rfl, hm⟩
        · go_wp2_with fail
          go_meet
          exact ⟨rfl, rfl⟩
        · go_wp2_with fail
          go_meet
          exact ⟨rfl, rfl⟩
    case rest =>
      obtain ⟨rfl, rfl⟩ := hcut
      have q1 := cellsL (block_later hB3 P1.out)
      go_wp2_with fail
      (with_reducible refine (A1.out _).mono ?_)
      rintro e w4 ⟨rfl, hb4⟩
      have hB4 := below_step hB3 hb4
      have hXa := fun o => hB4.alloc hB4.size o
      go_wp2_with fail
      refine calls_named fun y4 hy4 => ?_
      obtain ⟨p4, hy⟩ := box1 hy4
      have hB5 := below_step hB4 hy
      clear hy4 hXa
      have P4 := Lib.hid p4
      clear p4
      (with_reducible refine (A2.out _).mono ?_)
      rintro e w6 ⟨rfl, hb6⟩
      have hB6 := below_step hB5 hb6
      have hXa := fun o => hB6.alloc hB6.size o
      go_wp2_with fail
      refine calls_named fun y6 hy6 => ?_
      obtain ⟨p6, hy⟩ := box1 hy6
      have hB7 := below_step hB6 hy
      clear hy6 hXa
      have P6 := Lib.hid p6
      clear p6
      (with_reducible refine (A3.out _).mono ?_)
      rintro e w8 ⟨rfl, hb8⟩
      have hB8 := below_step hB7 hb8
      have P4 := Lib.hid (block_later hb8 (block_later hy (block_later hb6 P4.out)))
      have P6 := Lib.hid (block_later hb8 P6.out)
      go_upto_region 9 with (fail)
      refine wp_named fun y8 hy8 => ?_
      obtain ⟨p8, hy⟩ := box1 hy8
      have hB9 := below_step hB8 hy
      clear hy8
      have c4 := cell_block (block_later hy P4.out)
      have c6 := cell_block (block_later hy P6.out)
      have c8 := cell_block p8
      clear p8
      rcases J.out with rfl | ⟨h0, rfl⟩ | ⟨rfl, rfl, rfl, rfl, rfl, rfl, g1, g2⟩ | ⟨rfl, rfl, rfl, rfl, rfl⟩ | ⟨rfl, rfl, rfl, rfl, rfl⟩ | ⟨rfl, rfl, rfl⟩
      · go_wp2_with fail
        go_returns
        exact ⟨rfl, below_step hB hB9⟩
      · have h0' : (e == 1) = false := by simp [h0]
        go_wp2_with fail
        go_returns
        exact ⟨rfl, below_step hB hB9⟩
      all_goals
        go_wp2_with fail
        go_returns
        exact ⟨rfl, below_step hB hB9⟩
set_option maxRecDepth 100000 in
theorem stationSlots_lifted (os : Os) (started : os.Started) (H : Type) (enc : TypeId × Value → H) :
    ReturnsInHanded {} Try.checked os 7 .any (Rows.stationSlotsSpec.pre6 enc Try.prog Try.f7 Rows.stationSlotsRow.domain false) (Rows.stationSlotsSpec.post enc Try.prog Try.f7 false true false false) := by
  refine returnsInHanded_of_change (C := Try.checked) own_knob started (by kernel_rfl) Try.func7
    (ChangeSpec.witness6 (enc := enc) (C := Try.checked) false ⟨#[], #[.agg #[.int .i64 0, .int .i64 0, .int .i64 0, .int .i64 0, .int .i64 0, .int .i64 0, .int .i64 0], .int .i64 0, .int .i64 0, .int .i64 0, .int .i64 0], []⟩ 8 (by kernel_rfl) (by kernel_rfl) (by kernel_rfl) (by kernel_rfl)) ?_
  intro W base args ds gs before hval0 hW hcnd _
  have hval : ∀ (j : Nat) t v, Try.f7.params[j]? = some t → args[j]? = some v → Value.okWide Try.prog W .any base t v := hval0
  have hW' := hW
  obtain ⟨p, q, hA0, hV, rfl, hfz, hnd⟩ := hW
  have hA : DataW.TrodAll enc Try.prog W 0 (fun _ => true) true Try.f7.params.toList args.toList ds p := hA0
  rw [Try.params7] at hA hval
  obtain ⟨v0, vs0, d0, ds0, p0, q0, hargs, rfl, rfl, h0, r0⟩ := trodAll_cons hA
  obtain ⟨v1, vs1, d1, ds1, p1, q1, rfl, rfl, rfl, h1, r1⟩ := trodAll_cons r0
  obtain ⟨v2, vs2, d2, ds2, p2, q2, rfl, rfl, rfl, h2, r2⟩ := trodAll_cons r1
  obtain ⟨v3, vs3, d3, ds3, p3, q3, rfl, rfl, rfl, h3, r3⟩ := trodAll_cons r2
  obtain ⟨v4, vs4, d4, ds4, p4, q4, rfl, rfl, rfl, h4, r4⟩ := trodAll_cons r3
  obtain ⟨rfl, rfl, rfl⟩ := trodAll_nil r4
  obtain rfl : args = #[v0, v1, v2, v3, v4] := by cases args; simp_all
  obtain ⟨rfl, rfl⟩ := trodVars_none hV
  simp only [List.append_nil] at hW' hA0
  obtain ⟨id, ax, ay, dr, nr, fi, ev, e0⟩ := open_station (hval 0 25 v0 rfl rfl) h0
  subst e0
  obtain ⟨x, e1, _, _, w1⟩ := open_int Try.underlying3 (hval 1 3 v1 rfl rfl) h1
  subst e1
  obtain ⟨y, e2, _, _, w2⟩ := open_int Try.underlying3 (hval 2 3 v2 rfl rfl) h2
  subst e2
  obtain ⟨z, e3, _, _, w3⟩ := open_int Try.underlying3 (hval 3 3 v3 rfl rfl) h3
  subst e3
  obtain ⟨k, e4, _, _, w4⟩ := open_int Try.underlying3 (hval 4 3 v4 rfl rfl) h4
  subst e4
  refine (stationSlots_walk id ax ay dr nr fi ev x y z k W).mono fun e W' ⟨he, hg⟩ => ?_
  subst he
  exact ⟨_, rfl, post_law laid_out (by rw [Try.params7]; intro t ht; simp only [List.mem_cons, List.not_mem_nil, or_false] at ht; rcases ht with rfl | rfl | rfl | rfl | rfl <;> exact ⟨by kernel_rfl, of_decide_eq_true (by kernel_rfl)⟩) rfl hW' hA0 rfl rfl rfl rfl Try.underlying4 hg⟩
theorem stationSlots_over : Rows.stationSlotsRow.holds Try.pinned (OpenSpec.ofChange Rows.stationSlotsSpec) :=
  OpenClaim.holds_of_wide 7 Try.f7 rfl rfl rfl rfl rfl rfl rfl ⟨rfl, rfl, rfl, rfl, rfl⟩ rfl rfl rfl rfl rfl (by kernel_rfl) Try.func7 (by kernel_rfl)
    (of_decide_eq_true (by kernel_rfl)) (by unfold Func.isWrapper; first | (rw [if_pos (by decide +kernel)]; kernel_rfl) | (rw [if_neg (by decide +kernel)]; exact ⟨rfl, rfl⟩))
    (fun os started H enc _ => stationSlots_lifted os started H enc)
theorem stationSlots_holds : Rows.StationSlotsSaid :=
  stationSlots_over
#print axioms stationSlots_holds
end Go.Proofs.Ytnidacjmgekdjaa
