/- The walks of slices.BinarySearchFunc of features and of sheet.find. -/
import Derived.Test.YtdmegkkifiahdaaGreatShtD
namespace Go.Proofs.YtdmegkkifiahdaaGreat
open Go.RowKit
attribute [local go_sem] bqOp bqAll bqUpon sqOp sqAll sqUpon ssOp ssAll
attribute [local irreducible] wpQuiet wpBQ wpPlan wsPlan
set_option linter.unusedVariables false
theorem shfind1_any (f : Feat) (aa ab : Option Addr) (na ca ns cs : Nat) (id : Int) (w : World) (h1 : 0 ≤ f.id) (h2 : f.id ≤ 100000) (h3 : -1000000 ≤ id) (h4 : id ≤ 1000000) {v : Int} (hv : f.id - id = v) :
    Calls Tryz.prog 220 #[featV f (.slice aa na ca) (.slice ab ns cs), .int .i64 id] w fun e w' => e = .returned (.int .i64 v) ∧ Below w.heap.size w w' := by
  have HV := Lib.hid hv
  obtain ⟨fi, hfi⟩ : ∃ i, f.id = i := ⟨_, rfl⟩
  rw [hfi] at h1 h2 HV
  have HF := Lib.hid hfi
  clear hv
  go_enter Tryz.func220, Tryz.ntmps220
  go_wp2
  go_returns
  exact ⟨ret_int HV.out, by go_grown⟩
/-- What a search gives. -/
def FindP (l : List Feat) (id : Int) (w : World) (e : Ending) (w' : World) : Prop :=
  ∃ (i : Nat) (b : Bool), e = .returned (.tuple #[.int .i64 i, .bool b]) ∧ (b = true → i < l.length ∧ (l.getD i noFeat).id = id) ∧ (b = false → look l id = none) ∧ Below w.heap.size w w'
theorem look_none_of {l : List Feat} {id : Int} {a : Nat} (h1 : ∀ i, i < a → (l.getD i noFeat).id < id) (h2 : ∀ i, a ≤ i → i < l.length → id < (l.getD i noFeat).id) : look l id = none := by
  unfold look
  rw [List.find?_eq_none]
  intro f hf
  obtain ⟨i, hi, rfl⟩ := mem_getD noFeat hf
  rcases Nat.lt_or_ge i a with h | h
  · have := h1 i h; simp only [decide_eq_true_eq]; omega
  · have := h2 i h hi; simp only [decide_eq_true_eq]; omega
theorem ids_lt {l : List Feat} (h : idsUp l) {i j : Nat} (hij : i < j) (hj : j < l.length) : (l.getD i noFeat).id < (l.getD j noFeat).id := by
  have := List.pairwise_iff_getElem.1 h i j (by omega) hj hij
  rwa [List.getD_eq_getElem?_getD, List.getElem?_eq_getElem (by omega : i < l.length), List.getD_eq_getElem?_getD, List.getElem?_eq_getElem hj]
set_option maxHeartbeats 2000000 in
theorem bsFeat_any (l : List Feat) (v0 : Value) (id : Int) (w : World) (h : FeatsAt w v0 l) (hl : FeatsOk l) (hi1 : -1000000 ≤ id) (hi2 : id ≤ 1000000) :
    Calls Tryz.prog 219 #[v0, .int .i64 id, .func (.func 220) #[] #[]] w (FindP l id w) := by
  obtain ⟨ad, c, rfl, h1, hn, hc⟩ := h.form
  have H := Lib.hid h1
  have UP := Lib.hid (idsUp_of hl)
  have BD := Lib.hid (fun i (hi : i < l.length) => (hl.2 i hi).1.1.1)
  have hl3 := hl.1
  obtain ⟨n, hln⟩ : ∃ n, l.length = n := ⟨_, rfl⟩
  rw [hln] at H hn hc hl3
  rw [hln]
  have HL := Lib.hid hln
  clear h h1 hl hln
  go_enter Tryz.func219, Tryz.ntmps219
  go_wp2_with fail
  go_loopw [9, 10] (fun x y wr => ∃ a b : Nat, a ≤ b ∧ b ≤ n ∧ x = .int .i64 a ∧ y = .int .i64 b ∧ Below w.heap.size w wr ∧ (∀ i, i < a → (l.getD i noFeat).id < id) ∧ (∀ i, b ≤ i → i < n → id ≤ (l.getD i noFeat).id)) (fun x y _ => (intOf y - intOf x).toNat)
  case atStart => exact ⟨0, n, by omega, by omega, rfl, rfl, Below.refl _ _, fun i hi => by omega, fun i h1 h2 => by omega⟩
  case round =>
    obtain ⟨a, b, hab, hbn, rfl, rfl, hb, ha1, hb1⟩ := hrel
    have HA := Lib.hid ha1
    have HB := Lib.hid hb1
    clear ha1 hb1
    rcases Nat.lt_or_ge a b with hlt | hge
    · obtain ⟨m, hm⟩ : ∃ m, (a + b) / 2 = m := ⟨_, rfl⟩
      have hm1 : a ≤ m := by omega
      have hm2 : m < b := by omega
      have hm3 : m < n := by omega
      have j1 : ((a : Int) + (b : Int)) / 2 = (m : Int) := by omega
      have HM := Lib.hid hm
      clear hm
      obtain ⟨g, o, va, vs, rfl, fc⟩ := (H.out.later hb).row hm3
      obtain ⟨f, hf⟩ : ∃ f, l.getD m noFeat = f := ⟨_, rfl⟩
      have bd := BD.out m (by have := HL.out; omega)
      rw [hf] at fc bd
      have F := Lib.hid hf
      obtain ⟨bd1, bd2⟩ := bd
      clear hf
      obtain ⟨c0, c1, c2, c3, c4, c5, c6, c7, c8, PA, SA⟩ := fc
      obtain ⟨aa, ca, rfl, _, _, _⟩ := Lists.form PA
      obtain ⟨ab, cb, rfl, _, _, _⟩ := Lists.form SA
      clear PA SA
      obtain ⟨z, hz⟩ : ∃ z, f.id - id = z := ⟨_, rfl⟩
      have Z := Lib.hid hz
      clear hz
      have bd0 : 0 ≤ f.id := by omega
      go_wp2_with fail
      (with_reducible refine (shfind1_any f _ _ _ _ _ _ id _ bd0 bd2 hi1 hi2 Z.out).mono ?_)
      rintro e w2 ⟨rfl, hb2⟩
      have hB2 := below_step hb hb2
      clear c0 c1 c2 c3 c4 c5 c6 c7 c8 hb2
      by_cases hz0 : z < 0
      · have HA2 := Lib.hid (show ∀ i, i < m + 1 → (l.getD i noFeat).id < id from fun i hi => by
          have hfm : (l.getD m noFeat).id < id := by rw [F.out]; have := Z.out; omega
          rcases Nat.lt_or_ge i m with h | h
          · have := ids_lt UP.out h (by have := HL.out; omega)
            omega
          · obtain rfl : i = m := by omega
            exact hfm)
        go_wp2_with fail
        go_roundw
        case rel => exact ⟨m + 1, b, by omega, by omega, by go_num, rfl, hB2, HA2.out, HB.out⟩
        case measure => simp [intOf]; omega
      · have HB2 := Lib.hid (show ∀ i, m ≤ i → i < n → id ≤ (l.getD i noFeat).id from fun i h1 h2 => by
          have hfm : id ≤ (l.getD m noFeat).id := by rw [F.out]; have := Z.out; omega
          rcases Nat.lt_or_ge m i with h | h
          · have := ids_lt UP.out h (by have := HL.out; omega)
            omega
          · obtain rfl : i = m := by omega
            exact hfm)
        have d : decide (z < 0) = false := by simpa using hz0
        have d2 : 0 ≤ z := by omega
        clear hz0
        go_wp2_with fail
        go_roundw
        case rel => exact ⟨a, m, by omega, by omega, rfl, rfl, hB2, HA.out, HB2.out⟩
        case measure => simp [intOf]; omega
    · obtain rfl : a = b := by omega
      rcases Nat.lt_or_ge a n with hlt | hge
      · obtain ⟨g, o, va, vs, rfl, fc⟩ := (H.out.later hb).row hlt
        obtain ⟨f, hf⟩ : ∃ f, l.getD a noFeat = f := ⟨_, rfl⟩
        have bd := BD.out a (by have := HL.out; omega)
        rw [hf] at fc bd
        have F := Lib.hid hf
        obtain ⟨bd1, bd2⟩ := bd
        clear hf
        obtain ⟨c0, c1, c2, c3, c4, c5, c6, c7, c8, PA, SA⟩ := fc
        obtain ⟨aa, ca, rfl, _, _, _⟩ := Lists.form PA
        obtain ⟨ab, cb, rfl, _, _, _⟩ := Lists.form SA
        clear PA SA
        obtain ⟨z, hz⟩ : ∃ z, f.id - id = z := ⟨_, rfl⟩
        have Z := Lib.hid hz
        clear hz
        have bd0 : 0 ≤ f.id := by omega
        go_wp2_with fail
        (with_reducible refine (shfind1_any f _ _ _ _ _ _ id _ bd0 bd2 hi1 hi2 Z.out).mono ?_)
        rintro e w2 ⟨rfl, hb2⟩
        have hB2 := below_step hb hb2
        clear c0 c1 c2 c3 c4 c5 c6 c7 c8 hb2
        by_cases hz0 : z = 0
        · have YES := Lib.hid (show a < l.length ∧ (l.getD a noFeat).id = id by
            have h1 := HL.out
            have h2 := Z.out
            have h3 := F.out
            rw [h3]
            omega)
          have d : (z == 0) = true := by simp [hz0]
          clear hz0
          go_wp2_with fail
          go_ret2
          exact ⟨a, true, rfl, fun _ => YES.out, fun h => (by cases h), hB2⟩
        · have NO := Lib.hid (show look l id = none from look_none_of HA.out (fun i h1 h2 => by
            have hfm : id < (l.getD a noFeat).id := by
              have := HB.out a (Nat.le_refl _) hlt
              rw [F.out] at this ⊢
              have := Z.out
              omega
            rcases Nat.lt_or_ge a i with h | h
            · have := ids_lt UP.out h h2
              omega
            · obtain rfl : i = a := by omega
              exact hfm))
          have d : (z == 0) = false := by simpa using hz0
          clear hz0
          go_wp2_with fail
          go_ret2
          exact ⟨a, false, rfl, fun h => (by cases h), fun _ => NO.out, hB2⟩
      · obtain rfl : a = n := by omega
        have NO := Lib.hid (show look l id = none from look_none_of HA.out (fun i h1 h2 => by have := HL.out; omega))
        go_wp2_with fail
        go_ret2
        exact ⟨a, false, rfl, fun h => (by cases h), fun _ => NO.out, hb⟩
theorem shfind_any (s : Sht) (vd vf : Value) (id : Int) (w : World) (hd : IntsAt w vd s.don) (hf : FeatsAt w vf s.feats) (hs : FeatsOk s.feats) (hi1 : -1000000 ≤ id) (hi2 : id ≤ 1000000) :
    Calls Tryz.prog 126 #[shtV s vd vf, .int .i64 id] w (FindP s.feats id w) := by
  obtain ⟨ad, cd, rfl, h1, _, _⟩ := Lists.form hd
  obtain ⟨af, cf, rfl, g1, _, _⟩ := hf.form
  have HF := Lib.hid hf
  have HS := Lib.hid hs
  clear hd hf h1 g1 hs
  go_enter Tryz.func126, Tryz.ntmps126
  go_wp2_with fail
  refine calls_named fun W hW => ?_
  obtain ⟨p1, hB⟩ := box1 hW
  clear hW
  (with_reducible refine (bsFeat_any s.feats _ id _ (HF.out.later hB) HS.out hi1 hi2).mono ?_)
  rintro e w1 ⟨i, b, rfl, h1, h2, hb1⟩
  have H1 := Lib.hid h1
  have H2 := Lib.hid h2
  clear h1 h2
  go_wp2_with fail
  go_ret2
  exact ⟨i, b, rfl, H1.out, H2.out, below_step hB hb1⟩
end Go.Proofs.YtdmegkkifiahdaaGreat
