/- SymA, SymB, SymC, SymD, SymE, SymF: joined. -/
import Derived.Test.YtdmegkkifiahdaaGreatPolyF
import Derived.Test.YtdmegkkifiahdaaGreatKD
import Derived.Test.YtdmegkkifiahdaaGreatPC
/- The walks of package symbol: numbers, marks, valid books, the search for a symbol. -/
namespace Go.Proofs.YtdmegkkifiahdaaGreat
open Go.RowKit Go.Shelf
attribute [local go_sem] bqOp bqAll bqUpon sqOp sqAll sqUpon
attribute [local irreducible] wpQuiet wpBQ wpPlan
set_option linter.unusedVariables false
/-- Marks as rows of three integers. -/
def mkX (l : List Mk) (i : Nat) : Nat → Int
  | 0 => (l.getD i noMk).sym
  | 1 => (l.getD i noMk).kind
  | _ => (l.getD i noMk).cls
def MksAt (w : World) (v : Value) (l : List Mk) : Prop := Rows 3 w v l.length (mkX l)
theorem MksAt.later {w w' : World} {v : Value} {l : List Mk} (h : MksAt w v l) (hb : Below w.heap.size w w') : MksAt w' v l := Rows.later h hb
def bookV (b : Bk) (v : Value) : Value := .agg #[.int .i64 b.office, v]
theorem synumber_any (n : Int) (w : World) {v : Bool} (hv : decide (0 ≤ n ∧ n ≤ 999) = v) : Calls Tryz.prog 136 #[.int .i64 n] w fun e w' => e = .returned (.bool v) ∧ Below w.heap.size w w' := by
  have HV := Lib.hid hv
  clear hv
  go_enter Tryz.func136, Tryz.ntmps136
  go_wp2
  all_goals
    go_returns
    exact ⟨ret_bool (by rw [← HV.out]; (refine Bool.eq_iff_iff.2 ?_; simp only [decide_eq_true_eq, Bool.false_eq_true, false_iff]; omega)), by go_grown⟩
theorem syvalid_any (s k c : Int) (w : World) {v : Bool} (hv : decide (MkOk ⟨s, k, c⟩) = v) : Calls Tryz.prog 222 #[.agg #[.int .i64 s, .int .i64 k, .int .i64 c]] w fun e w' => e = .returned (.bool v) ∧ Below w.heap.size w w' := by
  obtain ⟨u, hu⟩ : ∃ b, decide (0 ≤ s ∧ s ≤ 999) = b := ⟨_, rfl⟩
  have HV : Hid ((u && decide ((1 ≤ k ∧ k ≤ 6) ∧ 0 ≤ c ∧ c ≤ 9)) = v) := Lib.hid (by
    rw [← hv, ← hu]
    refine Bool.eq_iff_iff.2 ?_
    simp only [Bool.and_eq_true, decide_eq_true_eq]
    exact Iff.rfl)
  have U := Lib.hid hu
  clear hv hu
  go_enter Tryz.func222, Tryz.ntmps222
  go_wp2_with fail
  refine calls_named fun W hW => ?_
  obtain ⟨p1, hB⟩ := box1 hW
  clear hW
  (with_reducible refine (synumber_any _ _ U.out).mono ?_)
  rintro e w1 ⟨rfl, hb1⟩
  have hB1 := below_step hB hb1
  have r1 := block_later hb1 p1
  have c0 := cell_block r1 0
  have c1 := cell_block r1 1
  have c2 := cell_block r1 2
  cases u
  · go_wp2_with fail
    go_returns
    exact ⟨ret_bool (by rw [← HV.out]; rfl), hB1⟩
  · go_wp2
    all_goals
      go_returns
      exact ⟨ret_bool (by rw [← HV.out]; (refine Bool.eq_iff_iff.2 ?_; simp only [Bool.true_and, decide_eq_true_eq, Bool.false_eq_true, false_iff]; omega)), hB1⟩
/-- The first k marks are valid, and rise. -/
def MksTo (l : List Mk) (k : Nat) : Prop := ∀ i, i < k → MkOk (l.getD i noMk) ∧ lastSym l i < (l.getD i noMk).sym
instance (l : List Mk) (k : Nat) : Decidable (MksTo l k) := by unfold MksTo; exact inferInstance
theorem MksTo.succ {l : List Mk} {k : Nat} (h : MksTo l k) (h1 : MkOk (l.getD k noMk)) (h2 : lastSym l k < (l.getD k noMk).sym) : MksTo l (k + 1) := fun i hi => by
  rcases Nat.lt_or_ge i k with h3 | h3
  · exact h i h3
  · obtain rfl : i = k := by omega
    exact ⟨h1, h2⟩
set_option maxHeartbeats 2000000 in
theorem syValid_any (b : Bk) (v0 : Value) (w : World) (h : MksAt w v0 b.marks) {v : Bool} (hv : decide (BkOk b) = v) : Calls Tryz.prog 135 #[bookV b v0] w fun e w' => e = .returned (.bool v) ∧ Below w.heap.size w w' := by
  obtain ⟨ad, c, rfl, h1, hn⟩ := Rows.form h
  have H := Lib.hid h1
  obtain ⟨l, hl⟩ : ∃ l, b.marks = l := ⟨_, rfl⟩
  obtain ⟨f, hf⟩ : ∃ f, b.office = f := ⟨_, rfl⟩
  rw [hl] at H hn
  have HV : Hid (decide ((1 ≤ f ∧ f ≤ 20) ∧ l.length ≤ 100 ∧ MksTo l l.length) = v) := Lib.hid (by rw [← hv, ← hf, ← hl]; exact decide_eq_decide.2 Iff.rfl)
  unfold bookV
  rw [hf, hl]
  clear h h1 hv hf hl
  obtain ⟨n, hln⟩ : ∃ n, l.length = n := ⟨_, rfl⟩
  rw [hln] at H hn HV
  rw [hln]
  have HL := Lib.hid hln
  clear hln
  by_cases hoff : 1 ≤ f ∧ f ≤ 20
  rotate_left
  · rcases (by omega : f < 1 ∨ 1 ≤ f ∧ 20 < f) with d | ⟨d1, d2⟩
    · clear hoff
      go_enter Tryz.func135, Tryz.ntmps135
      go_wp2_with fail
      go_returns
      exact ⟨ret_bool (by rw [← HV.out]; exact (decide_eq_false fun h => by omega).symm), by go_grown⟩
    · clear hoff
      have e1 : decide (f < 1) = false := by simp; omega
      go_enter Tryz.func135, Tryz.ntmps135
      go_wp2_with fail
      go_returns
      exact ⟨ret_bool (by rw [← HV.out]; exact (decide_eq_false fun h => by omega).symm), by go_grown⟩
  obtain ⟨o1, o2⟩ := hoff
  have e1 : decide (f < 1) = false := by simp; omega
  have e2 : decide (20 < f) = false := by simp; omega
  by_cases hlen : n ≤ 100
  rotate_left
  · have e3 : (100 : Int) < (n : Int) := by omega
    go_enter Tryz.func135, Tryz.ntmps135
    go_wp2_with fail
    go_returns
    exact ⟨ret_bool (by rw [← HV.out]; exact (decide_eq_false fun h => by omega).symm), by go_grown⟩
  have e3 : decide ((100 : Int) < (n : Int)) = false := by simp; omega
  have HV2 : Hid (decide (MksTo l n) = v) := Lib.hid (by
    rw [← HV.out]
    exact decide_eq_decide.2 ⟨fun h => ⟨⟨o1, o2⟩, hlen, h⟩, fun h => h.2.2⟩)
  clear HV
  go_enter Tryz.func135, Tryz.ntmps135
  go_wp2_with fail
  refine wp_named fun W hW => ?_
  obtain ⟨p1, hB⟩ := box1 hW
  have P1 := Lib.hid p1
  clear hW e1 e2 e3 p1
  go_loopw [3, 23] (fun t i wr => ∃ k : Nat, k ≤ n ∧ i = .int .i64 k ∧ t = .int .i64 (lastSym l k) ∧ Below w.heap.size w wr ∧ MksTo l k) (fun _ i _ => n - (Go.RowKit.intOf i).toNat)
  case atStart => exact ⟨0, by omega, rfl, rfl, hB, fun i hi => by omega⟩
  case round =>
    obtain ⟨k, hk, rfl, rfl, hb, hto⟩ := hrel
    have TO := Lib.hid hto
    clear hto
    rcases Nat.lt_or_ge k n with hlt | hge
    rotate_left
    · obtain rfl : k = n := by omega
      go_wp2_with fail
      go_returns
      exact ⟨ret_bool (by rw [← HV2.out]; exact (decide_eq_true TO.out).symm), hb⟩
    obtain ⟨g, o, rfl, hc⟩ := (H.out.later hb).row hlt
    have c0 := hc 0 (by omega)
    have c1 := hc 1 (by omega)
    have c2 := hc 2 (by omega)
    simp only [Nat.add_zero, mkX] at c0 c1 c2
    clear hc
    obtain ⟨⟨s, kd, cl⟩, hm⟩ : ∃ m, l.getD k noMk = m := ⟨_, rfl⟩
    rw [hm] at c0 c1 c2
    have HM := Lib.hid hm
    obtain ⟨ls, hls⟩ : ∃ s, lastSym l k = s := ⟨_, rfl⟩
    have LS := Lib.hid hls
    have NX : Hid (lastSym l (k + 1) = s) := Lib.hid (by show (l.getD k noMk).sym = s; rw [hm])
    rw [hls]
    obtain ⟨u, hu⟩ : ∃ u, decide (MkOk ⟨s, kd, cl⟩) = u := ⟨_, rfl⟩
    have U := Lib.hid hu
    clear hm hls hu
    dsimp only at c0 c1 c2
    go_wp2_with fail
    refine calls_named fun W1 hW1 => ?_
    obtain ⟨q1, hB1⟩ := box1 hW1
    clear hW1
    (with_reducible refine (syvalid_any _ _ _ _ U.out).mono ?_)
    rintro e w1 ⟨rfl, hb1⟩
    have hB2 := below_step hb (below_step hB1 hb1)
    have r1 := block_later hb1 q1
    have d0 := cell_block r1 0
    clear c0 c1 c2 q1 r1 hb1
    cases u
    · go_wp2_with fail
      go_returns
      exact ⟨ret_bool (by
        rw [← HV2.out]
        refine (decide_eq_false fun h => ?_).symm
        have := (h k hlt).1
        rw [HM.out] at this
        exact absurd this (of_decide_eq_false U.out)), hB2⟩
    by_cases hle : s ≤ ls
    · go_wp2_with fail
      go_returns
      exact ⟨ret_bool (by
        rw [← HV2.out]
        refine (decide_eq_false fun h => ?_).symm
        have := (h k hlt).2
        rw [HM.out, LS.out] at this
        exact absurd hle (by simpa using this)), hB2⟩
    · have e4 : decide (s ≤ ls) = false := by simpa using hle
      have LT := Lib.hid (show ls < s from Int.not_le.1 hle)
      go_wp2_with fail
      go_roundw
      case rel => exact ⟨k + 1, by omega, by go_num, by rw [NX.out], hB2, TO.out.succ (by rw [HM.out]; exact of_decide_eq_true U.out) (by rw [HM.out, LS.out]; exact LT.out)⟩
      case measure => simp [Go.RowKit.intOf]; omega
end Go.Proofs.YtdmegkkifiahdaaGreat
/- The walks of package symbol: the search for a symbol. -/
namespace Go.Proofs.YtdmegkkifiahdaaGreat
open Go.RowKit Go.Shelf
attribute [local go_sem] bqOp bqAll bqUpon sqOp sqAll sqUpon
attribute [local irreducible] wpQuiet wpBQ wpPlan
set_option linter.unusedVariables false
theorem syfind1_any (s k c n : Int) (w : World) {v : Int} (hv : cmpI s n = v) : Calls Tryz.prog 224 #[.agg #[.int .i64 s, .int .i64 k, .int .i64 c], .int .i64 n] w fun e w' => e = .returned (.int .i64 v) ∧ Below w.heap.size w w' := by
  have HV := Lib.hid hv
  clear hv
  go_enter Tryz.func224, Tryz.ntmps224
  go_wp2_with fail
  refine calls_named fun W hW => ?_
  obtain ⟨p1, hB⟩ := box1 hW
  clear hW p1
  (with_reducible refine (cmp2_any _ _ _ HV.out).mono ?_)
  rintro e w1 ⟨rfl, hb1⟩
  go_wp2_with fail
  go_returns
  exact ⟨rfl, below_step hB hb1⟩
/-- What the search gives. -/
def FindS (l : List Mk) (n : Int) (w : World) (e : Ending) (w' : World) : Prop :=
  ∃ (i : Nat) (b : Bool), e = .returned (.tuple #[.int .i64 i, .bool b]) ∧ (b = true → i < l.length ∧ (l.getD i noMk).sym = n) ∧ (b = false → findM l n = none) ∧ Below w.heap.size w w'
theorem findM_none {l : List Mk} {n : Int} {a : Nat} (h1 : ∀ i, i < a → (l.getD i noMk).sym < n) (h2 : ∀ i, a ≤ i → i < l.length → n < (l.getD i noMk).sym) : findM l n = none := by
  unfold findM
  rw [List.find?_eq_none]
  intro f hf
  obtain ⟨i, hi, rfl⟩ := mem_getD noMk hf
  rcases Nat.lt_or_ge i a with h | h
  · have := h1 i h; simp only [decide_eq_true_eq]; omega
  · have := h2 i h hi; simp only [decide_eq_true_eq]; omega
theorem syms_lt {l : List Mk} (h : MarksOk l) {i j : Nat} (hij : i < j) (hj : j < l.length) : (l.getD i noMk).sym < (l.getD j noMk).sym := by
  have := List.pairwise_iff_getElem.1 (marks_up h) i j (by omega) hj hij
  rwa [List.getD_eq_getElem?_getD, List.getElem?_eq_getElem (by omega : i < l.length), List.getD_eq_getElem?_getD, List.getElem?_eq_getElem hj]
theorem cmp_lt {x y : Int} (h : cmpI x y < 0) : x < y := by
  unfold cmpI at h
  split at h
  · assumption
  · split at h <;> omega
theorem cmp_ge {x y : Int} (h : ¬ cmpI x y < 0) : y ≤ x := by
  unfold cmpI at h
  split at h <;> omega
theorem cmp_zero {x y : Int} (h : cmpI x y = 0) : x = y := by
  unfold cmpI at h
  split at h
  · omega
  · split at h <;> omega
theorem cmp_ne {x y : Int} (h : ¬ cmpI x y = 0) : x ≠ y := fun e => h (by subst e; unfold cmpI; rw [if_neg (by omega), if_neg (by omega)])
set_option maxHeartbeats 2000000 in
theorem bsMark_any (l : List Mk) (v0 : Value) (id : Int) (w : World) (h : MksAt w v0 l) (hl : MarksOk l) (h100 : l.length ≤ 100) :
    Calls Tryz.prog 223 #[v0, .int .i64 id, .func (.func 224) #[] #[]] w (FindS l id w) := by
  obtain ⟨ad, c, rfl, h1, hn⟩ := Rows.form h
  have H := Lib.hid h1
  have UP := Lib.hid hl
  obtain ⟨n, hln⟩ : ∃ n, l.length = n := ⟨_, rfl⟩
  rw [hln] at H hn h100
  rw [hln]
  have HL := Lib.hid hln
  clear h h1 hl hln
  go_enter Tryz.func223, Tryz.ntmps223
  go_wp2_with fail
  go_loopw [9, 10] (fun x y wr => ∃ a b : Nat, a ≤ b ∧ b ≤ n ∧ x = .int .i64 a ∧ y = .int .i64 b ∧ Below w.heap.size w wr ∧ (∀ i, i < a → (l.getD i noMk).sym < id) ∧ (∀ i, b ≤ i → i < n → id ≤ (l.getD i noMk).sym)) (fun x y _ => (Go.RowKit.intOf y - Go.RowKit.intOf x).toNat)
  case atStart => exact ⟨0, n, by omega, by omega, rfl, rfl, Below.refl _ _, fun i hi => by omega, fun i h1 h2 => by omega⟩
  case round =>
    obtain ⟨a, b, hab, hbn, rfl, rfl, hb, ha1, hb1⟩ := hrel
    have HA := Lib.hid ha1
    have HB := Lib.hid hb1
    clear ha1 hb1
    rcases Nat.lt_or_ge a b with hlt | hge
    · obtain ⟨m, hm⟩ : ∃ m, (a + b) / 2 = m := ⟨_, rfl⟩
      have hm1 : a ≤ m := by omega
      have hm2 : m < b := by omega
      have hm3 : m < n := by omega
      have j1 : ((a : Int) + (b : Int)) / 2 = (m : Int) := by omega
      have HM := Lib.hid hm
      clear hm
      obtain ⟨g, o, rfl, hc⟩ := (H.out.later hb).row hm3
      have c0 := hc 0 (by omega)
      have c1 := hc 1 (by omega)
      have c2 := hc 2 (by omega)
      simp only [Nat.add_zero, mkX] at c0 c1 c2
      clear hc
      obtain ⟨f, hf⟩ : ∃ f, l.getD m noMk = f := ⟨_, rfl⟩
      rw [hf] at c0 c1 c2
      have F := Lib.hid hf
      clear hf
      obtain ⟨z, hz⟩ : ∃ z, cmpI f.sym id = z := ⟨_, rfl⟩
      have Z := Lib.hid hz
      clear hz
      go_wp2_with fail
      (with_reducible refine (syfind1_any _ _ _ _ _ Z.out).mono ?_)
      rintro e w2 ⟨rfl, hb2⟩
      have hB2 := below_step hb hb2
      clear c0 c1 c2 hb2
      by_cases hz0 : z < 0
      · have HA2 := Lib.hid (show ∀ i, i < m + 1 → (l.getD i noMk).sym < id from fun i hi => by
          have hfm : (l.getD m noMk).sym < id := by rw [F.out]; exact cmp_lt (by rw [Z.out]; exact hz0)
          rcases Nat.lt_or_ge i m with h | h
          · have := syms_lt UP.out h (by have := HL.out; omega)
            omega
          · obtain rfl : i = m := by omega
            exact hfm)
        go_wp2_with fail
        go_roundw
        case rel => exact ⟨m + 1, b, by omega, by omega, by go_num, rfl, hB2, HA2.out, HB.out⟩
        case measure => simp [Go.RowKit.intOf]; omega
      · have HB2 := Lib.hid (show ∀ i, m ≤ i → i < n → id ≤ (l.getD i noMk).sym from fun i h1 h2 => by
          have hfm : id ≤ (l.getD m noMk).sym := by rw [F.out]; exact cmp_ge (by rw [Z.out]; exact hz0)
          rcases Nat.lt_or_ge m i with h | h
          · have := syms_lt UP.out h (by have := HL.out; omega)
            omega
          · obtain rfl : i = m := by omega
            exact hfm)
        have d : decide (z < 0) = false := by simpa using hz0
        have d2 : 0 ≤ z := by omega
        clear hz0
        go_wp2_with fail
        go_roundw
        case rel => exact ⟨a, m, by omega, by omega, rfl, rfl, hB2, HA.out, HB2.out⟩
        case measure => simp [Go.RowKit.intOf]; omega
    · obtain rfl : a = b := by omega
      rcases Nat.lt_or_ge a n with hlt | hge
      · obtain ⟨g, o, rfl, hc⟩ := (H.out.later hb).row hlt
        have c0 := hc 0 (by omega)
        have c1 := hc 1 (by omega)
        have c2 := hc 2 (by omega)
        simp only [Nat.add_zero, mkX] at c0 c1 c2
        clear hc
        obtain ⟨f, hf⟩ : ∃ f, l.getD a noMk = f := ⟨_, rfl⟩
        rw [hf] at c0 c1 c2
        have F := Lib.hid hf
        clear hf
        obtain ⟨z, hz⟩ : ∃ z, cmpI f.sym id = z := ⟨_, rfl⟩
        have Z := Lib.hid hz
        clear hz
        go_wp2_with fail
        (with_reducible refine (syfind1_any _ _ _ _ _ Z.out).mono ?_)
        rintro e w2 ⟨rfl, hb2⟩
        have hB2 := below_step hb hb2
        clear c0 c1 c2 hb2
        by_cases hz0 : z = 0
        · have YES := Lib.hid (show a < l.length ∧ (l.getD a noMk).sym = id by
            have h1 := HL.out
            refine ⟨by omega, ?_⟩
            rw [F.out]
            exact cmp_zero (by rw [Z.out]; exact hz0))
          have d : (z == 0) = true := by simp [hz0]
          clear hz0
          go_wp2_with fail
          go_ret2
          exact ⟨a, true, rfl, fun _ => YES.out, fun h => (by cases h), hB2⟩
        · have NO := Lib.hid (show findM l id = none from findM_none HA.out (fun i h1 h2 => by
            have hfm : id < (l.getD a noMk).sym := by
              have := HB.out a (Nat.le_refl _) hlt
              have := cmp_ne (by rw [Z.out]; exact hz0)
              rw [F.out] at *
              omega
            rcases Nat.lt_or_ge a i with h | h
            · have := syms_lt UP.out h h2
              omega
            · obtain rfl : i = a := by omega
              exact hfm))
          have d : (z == 0) = false := by simpa using hz0
          clear hz0
          go_wp2_with fail
          go_ret2
          exact ⟨a, false, rfl, fun h => (by cases h), fun _ => NO.out, hB2⟩
      · obtain rfl : a = n := by omega
        have NO := Lib.hid (show findM l id = none from findM_none HA.out (fun i h1 h2 => by have := HL.out; omega))
        go_wp2_with fail
        go_ret2
        exact ⟨a, false, rfl, fun h => (by cases h), fun _ => NO.out, hb⟩
def markV (m : Mk) : Value := .agg #[.int .i64 m.sym, .int .i64 m.kind, .int .i64 m.cls]
theorem getD_memM {l : List Mk} {i : Nat} (hi : i < l.length) : l.getD i noMk ∈ l := by
  rw [List.getD_eq_getElem?_getD, List.getElem?_eq_getElem hi]
  exact List.getElem_mem hi
theorem find_at {l : List Mk} (h : MarksOk l) {i : Nat} (hi : i < l.length) : findM l (l.getD i noMk).sym = some (l.getD i noMk) := find_mem h (getD_memM hi)
set_option maxHeartbeats 2000000 in
theorem syfind_any (b : Bk) (v0 : Value) (n : Int) (w : World) (h : MksAt w v0 b.marks) (hl : MarksOk b.marks) (h100 : b.marks.length ≤ 100) {r : Option Mk} (hr : findM b.marks n = r) :
    Calls Tryz.prog 137 #[bookV b v0, .int .i64 n] w fun e w' => e = .returned (.tuple #[markV (r.getD noMk), .bool r.isSome]) ∧ Below w.heap.size w w' := by
  obtain ⟨ad, c, rfl, h1, hn⟩ := Rows.form h
  have H := Lib.hid (show MksAt w (.slice ad b.marks.length c) b.marks from h1)
  obtain ⟨l, hll⟩ : ∃ l, b.marks = l := ⟨_, rfl⟩
  obtain ⟨f, hf⟩ : ∃ f, b.office = f := ⟨_, rfl⟩
  unfold bookV
  rw [hll] at H hl hr hn h100
  rw [hf, hll]
  have UP := Lib.hid hl
  have HR := Lib.hid hr
  have H100 := Lib.hid h100
  clear h h1 hl hr hll hf h100
  obtain ⟨q, hq⟩ : ∃ q, l.length = q := ⟨_, rfl⟩
  rw [hq] at hn
  rw [hq]
  have HQ := Lib.hid hq
  have HRW : Hid (Rows 3 w (.slice ad q c) q (mkX l)) := Lib.hid (by have := H.out; unfold MksAt at this; rwa [hq] at this)
  rw [hq] at H
  clear hq
  go_enter Tryz.func137, Tryz.ntmps137
  go_wp2_with fail
  refine calls_named fun W hW => ?_
  obtain ⟨p1, p2, hB⟩ := box2 hW
  clear hW
  (with_reducible refine (bsMark_any l _ n _ (H.out.later hB) UP.out H100.out).mono ?_)
  rintro e w1 ⟨i, bb, rfl, h1, h2, hb1⟩
  have hB1 := below_step hB hb1
  have r1 := block_later hb1 p1
  have r2 := block_later hb1 p2
  have c0 := cell_block r1 0
  have c1 := cell_block r1 1
  have f2 := free_block r2
  have R2 := Lib.hid r2
  have d2 := cell_block r2
  clear p1 p2 r1 r2
  cases bb
  · have HN : Hid (r = none) := Lib.hid (by rw [← HR.out]; exact h2 rfl)
    clear h1 h2
    go_wp2_with fail
    have c9 := cell_block (block_set (i := 2) (block_set (i := 1) (block_set (i := 0) R2.out (.int .i64 0)) (.int .i64 0)) (.int .i64 0))
    exact bodyPost_ret (v := .tuple #[.agg #[.int .i64 0, .int .i64 0, .int .i64 0], .bool false]) (by simp [results, Tryz.results137, go_sem, c9]) rfl ⟨by rw [HN.out]; rfl, ((hB1.setCell (by dsimp only; omega) _).setCell (by dsimp only; omega) _).setCell (by dsimp only; omega) _⟩
  · obtain ⟨hi, hs⟩ := h1 rfl
    have HS : Hid (r = some (l.getD i noMk)) := Lib.hid (by rw [← HR.out, ← hs]; exact find_at UP.out hi)
    have hi2 : i < q := by have := HQ.out; omega
    clear h1 h2 hi hs
    obtain ⟨g, o, rfl, hc⟩ := (Rows.later (HRW.out) hB1).row hi2
    have e0 := hc 0 (by omega)
    have e1 := hc 1 (by omega)
    have e2 := hc 2 (by omega)
    simp only [Nat.add_zero, mkX] at e0 e1 e2
    clear hc
    obtain ⟨⟨s, k, cl⟩, hm⟩ : ∃ m, l.getD i noMk = m := ⟨_, rfl⟩
    rw [hm] at e0 e1 e2 HS
    dsimp only at e0 e1 e2
    clear hm
    go_wp2_with fail
    have c9 := cell_block (block_set (i := 2) (block_set (i := 1) (block_set (i := 0) R2.out (.int .i64 s)) (.int .i64 k)) (.int .i64 cl))
    exact bodyPost_ret (v := .tuple #[.agg #[.int .i64 s, .int .i64 k, .int .i64 cl], .bool true]) (by simp [results, Tryz.results137, go_sem, c9]) rfl ⟨by rw [HS.out]; rfl, ((hB1.setCell (by dsimp only; omega) _).setCell (by dsimp only; omega) _).setCell (by dsimp only; omega) _⟩
end Go.Proofs.YtdmegkkifiahdaaGreat
/- The walks of package symbol: Find; the marks that fit, as an iterator. -/
namespace Go.Proofs.YtdmegkkifiahdaaGreat
open Go.RowKit Go.Shelf
section
attribute [local go_sem] bqOp bqAll bqUpon sqOp sqAll sqUpon
attribute [local irreducible] wpQuiet wpBQ wpPlan
set_option linter.unusedVariables false
/-- What Find answers: the mark and the error. -/
def ansR : Option Mk → Mk × Int
  | none => (noMk, 11)
  | some m => (m, 0)
def findR (b : Bk) (n : Int) : Mk × Int := if BkOk b ∧ 0 ≤ n ∧ n ≤ 999 then ansR (findM b.marks n) else (noMk, 1)
theorem marks_of {b : Bk} (h : BkOk b) : MarksOk b.marks ∧ b.marks.length ≤ 100 := ⟨h.2.2, h.2.1⟩
set_option maxHeartbeats 2000000 in
theorem syFind_any (b : Bk) (v0 : Value) (n : Int) (w : World) (h : MksAt w v0 b.marks) {m : Mk} {k : Int} (hr : findR b n = (m, k)) :
    Calls Tryz.prog 229 #[bookV b v0, .int .i64 n] w fun e w' => e = .returned (.tuple #[markV m, .int .i64 k]) ∧ Below w.heap.size w w' := by
  obtain ⟨ad, c, rfl, h1, hn⟩ := Rows.form h
  have H := Lib.hid (show MksAt w (.slice ad b.marks.length c) b.marks from h1)
  obtain ⟨v, hv⟩ : ∃ v, decide (BkOk b) = v := ⟨_, rfl⟩
  obtain ⟨u, hu⟩ : ∃ v, decide (0 ≤ n ∧ n ≤ 999) = v := ⟨_, rfl⟩
  have V := Lib.hid hv
  have U := Lib.hid hu
  have HR := Lib.hid hr
  clear h h1 hn hv hu hr
  have BV : bookV b (.slice ad b.marks.length c) = .agg #[.int .i64 b.office, .slice ad b.marks.length c] := rfl
  obtain ⟨f, hf⟩ : ∃ f, b.office = f := ⟨_, rfl⟩
  obtain ⟨q, hq⟩ : ∃ q, b.marks.length = q := ⟨_, rfl⟩
  rw [BV]
  rw [hq] at H BV ⊢
  rw [hf] at BV ⊢
  have HB := Lib.hid BV
  clear BV hf hq
  go_enter Tryz.func229, Tryz.ntmps229
  go_wp2_with fail
  refine calls_named fun W hW => ?_
  obtain ⟨p1, p2, hB⟩ := box2 hW
  clear hW
  rw [← HB.out]
  (with_reducible refine (syValid_any b _ _ (H.out.later hB) V.out).mono ?_)
  rintro e w1 ⟨rfl, hb1⟩
  have hB1 := below_step hB hb1
  have r1 := block_later hb1 p1
  have r2 := block_later hb1 p2
  clear p1 p2
  have f2 := free_block r2
  have d2 := cell_block r2
  have R2 := Lib.hid r2
  have R1 := Lib.hid r1
  have c0 := cell_block r1 0
  have c1 := cell_block r1 1
  clear r1 r2
  cases v
  · have HN : Hid (noMk = m ∧ (1 : Int) = k) := Lib.hid (by
      have := HR.out
      unfold findR at this
      rw [if_neg (fun h => of_decide_eq_false V.out h.1)] at this
      exact ⟨congrArg Prod.fst this, congrArg Prod.snd this⟩)
    go_wp2_with fail
    have c9 := cell_block (block_set (i := 2) (block_set (i := 1) (block_set (i := 0) R2.out (.int .i64 0)) (.int .i64 0)) (.int .i64 0))
    exact bodyPost_ret (v := .tuple #[.agg #[.int .i64 0, .int .i64 0, .int .i64 0], .int .i64 1]) (by simp [results, Tryz.results229, go_sem, c9]) rfl ⟨by rw [← HN.out.1, ← HN.out.2]; rfl, ((hB1.setCell (by dsimp only; omega) _).setCell (by dsimp only; omega) _).setCell (by dsimp only; omega) _⟩
  have OK := Lib.hid (of_decide_eq_true V.out)
  go_wp2_with fail
  (with_reducible refine (synumber_any _ _ U.out).mono ?_)
  rintro e w2 ⟨rfl, hb2⟩
  have hB2 := below_step hB1 hb2
  have r1 := block_later hb2 R1.out
  have r2 := block_later hb2 R2.out
  clear c0 c1 f2 d2 R1 R2
  have f2 := free_block r2
  have d2 := cell_block r2
  have R2 := Lib.hid r2
  have R1 := Lib.hid r1
  have c0 := cell_block r1 0
  have c1 := cell_block r1 1
  clear r1 r2
  cases u
  · have HN : Hid (noMk = m ∧ (1 : Int) = k) := Lib.hid (by
      have := HR.out
      unfold findR at this
      rw [if_neg (fun h => of_decide_eq_false U.out h.2)] at this
      exact ⟨congrArg Prod.fst this, congrArg Prod.snd this⟩)
    go_wp2_with fail
    have c9 := cell_block (block_set (i := 2) (block_set (i := 1) (block_set (i := 0) R2.out (.int .i64 0)) (.int .i64 0)) (.int .i64 0))
    exact bodyPost_ret (v := .tuple #[.agg #[.int .i64 0, .int .i64 0, .int .i64 0], .int .i64 1]) (by simp [results, Tryz.results229, go_sem, c9]) rfl ⟨by rw [← HN.out.1, ← HN.out.2]; rfl, ((hB2.setCell (by dsimp only; omega) _).setCell (by dsimp only; omega) _).setCell (by dsimp only; omega) _⟩
  obtain ⟨r, hr⟩ : ∃ r, findM b.marks n = r := ⟨_, rfl⟩
  have R := Lib.hid hr
  have HN : Hid (ansR r = (m, k)) := Lib.hid (by
    have := HR.out
    unfold findR at this
    rw [if_pos ⟨OK.out, of_decide_eq_true U.out⟩, hr] at this
    exact this)
  clear hr
  go_wp2_with fail
  rw [← HB.out]
  (with_reducible refine (syfind_any b _ n _ (H.out.later hB2) (marks_of OK.out).1 (marks_of OK.out).2 R.out).mono ?_)
  rintro e w3 ⟨rfl, hb3⟩
  have hB3 := below_step hB2 hb3
  have r2 := block_later hb3 R2.out
  clear c0 c1 f2 d2 R1 R2
  have f2 := free_block r2
  have d2 := cell_block r2
  have R2 := Lib.hid r2
  clear r2
  cases r with
  | none =>
    dsimp only [Option.getD, Option.isSome, markV, noMk]
    have r3 := block_alloc (o' := .cells #[.int .i64 0, .int .i64 0, .int .i64 0] 166) R2.out
    have f3 := free_block r3
    have d3 := cell_block r3
    have R3 := Lib.hid r3
    clear r3
    go_wp2_with fail
    have c9 := cell_block (block_set (i := 2) (block_set (i := 1) (block_set (i := 0) R3.out (.int .i64 0)) (.int .i64 0)) (.int .i64 0))
    have HN1 := congrArg Prod.fst HN.out
    have HN2 := congrArg Prod.snd HN.out
    dsimp only [ansR] at HN1 HN2
    exact bodyPost_ret (v := .tuple #[.agg #[.int .i64 0, .int .i64 0, .int .i64 0], .int .i64 11]) (by simp [results, Tryz.results229, go_sem, c9]) rfl ⟨by rw [← HN1, ← HN2]; rfl, (((hB3.alloc hB3.size _).setCell (by dsimp only; omega) _).setCell (by dsimp only; omega) _).setCell (by dsimp only; omega) _⟩
  | some x =>
    obtain ⟨s, kd, cl⟩ := x
    dsimp only [Option.getD, Option.isSome, markV, noMk]
    have r3 := block_alloc (o' := .cells #[.int .i64 s, .int .i64 kd, .int .i64 cl] 166) R2.out
    have f3 := free_block r3
    have d3 := cell_block r3
    have R3 := Lib.hid r3
    clear r3
    go_wp2_with fail
    have c9 := cell_block (block_set (i := 2) (block_set (i := 1) (block_set (i := 0) R3.out (.int .i64 s)) (.int .i64 kd)) (.int .i64 cl))
    have HN1 := congrArg Prod.fst HN.out
    have HN2 := congrArg Prod.snd HN.out
    dsimp only [ansR] at HN1 HN2
    exact bodyPost_ret (v := .tuple #[.agg #[.int .i64 s, .int .i64 kd, .int .i64 cl], .int .i64 0]) (by simp [results, Tryz.results229, go_sem, c9]) rfl ⟨by rw [← HN1, ← HN2]; rfl, (((hB3.alloc hB3.size _).setCell (by dsimp only; omega) _).setCell (by dsimp only; omega) _).setCell (by dsimp only; omega) _⟩
def fitB (m x : Mk) : Bool := decide (x.kind = m.kind ∧ m.cls ≤ x.cls)
theorem syfits_any (m : Mk) (s k c : Int) (w : World) {v : Bool} (hv : fitB m ⟨s, k, c⟩ = v) : Calls Tryz.prog 227 #[.agg #[.int .i64 m.sym, .int .i64 m.kind, .int .i64 m.cls], .agg #[.int .i64 s, .int .i64 k, .int .i64 c]] w fun e w' => e = .returned (.bool v) ∧ Below w.heap.size w w' := by
  have HV : Hid (decide (k = m.kind ∧ m.cls ≤ c) = v) := Lib.hid hv
  clear hv
  obtain ⟨a, b, d⟩ := m
  dsimp only at HV ⊢
  go_enter Tryz.func227, Tryz.ntmps227
  go_wp2
  all_goals
    go_returns
    exact ⟨ret_bool (by rw [← HV.out]; (refine Bool.eq_iff_iff.2 ?_; simp only [decide_eq_true_eq, Bool.false_eq_true, false_iff]; omega)), by go_grown⟩
theorem symarks_any (b : Bk) (v0 : Value) (fn : Fn) (bs ls : Array Value) (w : World) : Calls Tryz.prog 226 #[.agg #[.int .i64 b.office, v0], .func fn bs ls] w fun e w' => e = .returned (.func (.func 316) #[] #[.pointer (some ⟨w.heap.size, 0, none⟩), .pointer (some ⟨w.heap.size + 1, 0, none⟩)]) ∧ w' = (w.alloc (.cells #[.int .i64 b.office, v0] 72)).alloc (.cells #[.func fn bs ls] 274) := by
  go_enter Tryz.func226, Tryz.ntmps226
  go_wp2
  go_returns
  exact ⟨rfl, rfl⟩
end
end Go.Proofs.YtdmegkkifiahdaaGreat
/- The walks of package symbol: the marks that fit, as an iterator; the translation. -/
namespace Go.Proofs.YtdmegkkifiahdaaGreat
open Go.RowKit Go.Shelf
attribute [local go_sem] bqOp bqAll bqUpon
attribute [local irreducible] wpQuiet wpBQ
attribute [local go_sem] Oper.semAt_some
set_option linter.unusedVariables false
def encM (l : List Mk) (i : Nat) : Array Value := #[markV (l.getD i noMk)]
def fitsN (m : Mk) (l : List Mk) (n k : Nat) : List (Fin n) := (preN n k).filter fun i => fitB m (l.getD i.1 noMk)
theorem fitsN_snoc {m : Mk} {l : List Mk} {n k : Nat} (h : k < n) : fitsN m l n (k + 1) = fitsN m l n k ++ (if fitB m (l.getD k noMk) = true then [⟨k, h⟩] else []) := by
  unfold fitsN
  rw [preN_snoc h, List.filter_append]
  congr 1
  rw [List.filter_cons, List.filter_nil]
theorem fitsN_len {m : Mk} {l : List Mk} {n k : Nat} (h : k ≤ n) : (fitsN m l n k).length ≤ k := by
  unfold fitsN
  have := List.length_filter_le (fun i : Fin n => fitB m (l.getD i.1 noMk)) (preN n k)
  rw [preN_len h] at this
  exact this
set_option maxRecDepth 20000 in
set_option maxHeartbeats 1000000 in
theorem symarks1_stops (l : List Mk) (n c : Nat) (ad : Option Addr) (f : Int) (m : Mk) (B1 B2 n₀ mm : Nat) (hm : 3 ≤ mm) (w0 w : World) (hR : Rows 3 w0 (.slice ad n c) n (mkX l)) (hn : n ≤ 1000) (hb0 : Below w0.heap.size w0 w) (h0 : w0.heap.size ≤ n₀) (hn0 : n₀ ≤ w.heap.size) (hB1 : B1 < w.heap.size) (hB2 : B2 < w.heap.size)
    (hblk1 : w.heap[B1]? = some (.cells #[.int .i64 f, .slice ad n c] 72 (0, 0))) (hblk2 : w.heap[B2]? = some (.cells #[.func (.func 227) #[markV m] #[]] 274 (0, 0))) :
    SeqStopsK Fence.wide mm Tryz.prog 316 #[.pointer (some ⟨B1, 0, none⟩), .pointer (some ⟨B2, 0, none⟩)] (fun i : Fin n => encM l i.1) (EdgeK n₀ B2) (fun ys => ys = fitsN m l n n) (fun pre => True) n w := by
  intro lp J Jx W hW hJ hJx hY hJ0
  have hm1 : 1 ≤ mm := by omega
  have hm2 : 1 ≤ mm - 1 := by omega
  have HJ := Lib.hid (fun s A B (h : J s A) (hb : Below A.heap.size A B) => hJ s A B none h (grown_of_below hb) (fun r e => by cases e))
  have HY := Lib.hid hY
  have HR := Lib.hid hR
  have J0 := Lib.hid hJ0
  have hsz := hW.size
  have W0 := Lib.hid (hb0.trans (hW.mono hb0.size))
  have BK1 := Lib.hid (show W.heap[B1]? = some (.cells #[.int .i64 f, .slice ad n c] 72 (0, 0)) from (hW.block B1 hB1).trans hblk1)
  have BK2 := Lib.hid (show W.heap[B2]? = some (.cells #[.func (.func 227) #[markV m] #[]] 274 (0, 0)) from (hW.block B2 hB2).trans hblk2)
  clear hJ hJx hY hJ0 hW hblk1 hblk2 hb0 hR
  have c1 := cell_block BK1.out 1
  refine callsIn_of_wp Tryz.func316 rfl trivial ?_ rfl
  simp only [Tryz.ntmps316, List.append_toArray, List.cons_append, List.nil_append, List.size_toArray, List.length_cons, List.length_nil, Nat.reduceAdd, Nat.reduceSub, Array.replicate_succ, Array.replicate_zero, List.push_toArray]
  gi_wp2
  gi_loopw [9] (fun i wr => ∃ k : Nat, k ≤ n ∧ i = .int .i64 k ∧ J (fitsN m l n k) wr ∧ EdgeK n₀ B2 W wr) (fun i _ => n - (Go.RowKit.intOf i).toNat)
  case atStart => exact ⟨0, by omega, rfl, J0.out, EdgeK.refl _ _ _⟩
  case round =>
    obtain ⟨k, hk, rfl, hJr, hKr⟩ := hrel
    have JR := Lib.hid hJr
    have KR := Lib.hid hKr
    clear hJr hKr
    obtain ⟨wo, rfl⟩ : ∃ wo : World, wo = wr := ⟨_, rfl⟩
    by_cases hlt : k < n
    rotate_left
    · obtain rfl : k = n := by omega
      gi_wp2
      go_end0
      exact ⟨⟨_, rfl⟩, .inl ⟨_, rfl, JR.out⟩⟩
    have hs2 : W.heap.size ≤ wo.heap.size := KR.out.below.size
    have hRr : Rows 3 wo (.slice ad n c) n (mkX l) := HR.out.later (W0.out.trans (KR.out.below.mono h0))
    obtain ⟨g, o, rfl, hc⟩ := hRr.row hlt
    have r0 := hc 0 (by omega)
    have r1 := hc 1 (by omega)
    have r2 := hc 2 (by omega)
    have b0 := cell_block (KR.out.blk.trans BK2.out) 0
    simp only [Nat.add_zero, mkX] at r0 r1 r2
    clear hc hRr
    obtain ⟨⟨s, kd, cl⟩, hmk⟩ : ∃ x, l.getD k noMk = x := ⟨_, rfl⟩
    rw [hmk] at r0 r1 r2
    dsimp only at r0 r1 r2
    have MK := Lib.hid hmk
    clear hmk
    obtain ⟨u, hu⟩ : ∃ u, fitB m ⟨s, kd, cl⟩ = u := ⟨_, rfl⟩
    have U := Lib.hid hu
    have SN : Hid (fitsN m l n (k + 1) = fitsN m l n k ++ (if u = true then [⟨k, hlt⟩] else [])) := Lib.hid (by rw [fitsN_snoc hlt, MK.out, hu])
    clear hu
    have hbl := (Below.refl wo.heap.size wo).alloc (Nat.le_refl _) (.cells #[.int .i64 s, .int .i64 kd, .int .i64 cl] 166)
    have hbn : B2 < wo.heap.size := by omega
    have hn1 : n₀ ≤ wo.heap.size := by omega
    have HK1 := Lib.hid (KR.out.trans (EdgeK.of_below hbl hn1 hbn))
    have HJ1 := Lib.hid (HJ.out _ _ _ JR.out hbl)
    have HB1 := Lib.hid (block_new wo (.cells #[.int .i64 s, .int .i64 kd, .int .i64 cl] 166))
    have e0 := cell_block HB1.out 0
    have e1 := cell_block HB1.out 1
    have e2 := cell_block HB1.out 2
    have b1 := cell_block (HK1.out.blk.trans BK2.out) 0
    clear hbl
    gi_wp2
    refine ⟨trivial, ?_⟩
    refine (callsIn_wide.2 (syfits_any m s kd cl _ U.out)).mono ?_
    rintro e w2 ⟨rfl, hb2⟩
    have HB2 := Lib.hid (block_later hb2 HB1.out)
    have HJ2 := Lib.hid (HJ.out _ _ _ HJ1.out hb2)
    have hsz2 : wo.heap.size + 1 ≤ w2.heap.size := by have := hb2.size; simpa using this
    have HK2 := Lib.hid (HK1.out.trans (EdgeK.of_below hb2 (by simp; omega) (by simp; omega)))
    clear e0 e1 e2 r0 r1 r2 b0 b1 hb2
    have e0 := cell_block HB2.out 0
    have e1 := cell_block HB2.out 1
    have e2 := cell_block HB2.out 2
    cases u
    · gi_wp2
      refine ⟨fun _ h => (by cases h), ?_⟩
      gi_wp2
      go_roundw
      case rel => exact ⟨k + 1, by omega, by go_num, by rw [SN.out]; exact (List.append_nil _).symm ▸ HJ2.out, HK2.out⟩
      case measure => simp [Go.RowKit.intOf]; omega
    obtain ⟨fn, tmps, assign, body, hy, hR⟩ := HY.out (fitsN m l n k) ⟨k, hlt⟩ w2 HJ2.out (by have := fitsN_len (m := m) (l := l) hk; omega)
    unfold encM at hy
    dsimp only at hy
    rw [MK.out] at hy
    dsimp only [markV] at hy
    gi_wp2
    refine hR.mono ?_
    rintro e w3 (⟨rfl, hJ3, hk3⟩ | ⟨rfl, hJ3⟩)
    · have J3 := Lib.hid hJ3
      have K3 := Lib.hid (HK2.out.trans hk3)
      clear hJ3 hk3 hy hR e0 e1 e2
      gi_wp2
      go_roundw
      case rel => exact ⟨k + 1, by omega, by go_num, by rw [SN.out]; exact J3.out, K3.out⟩
      case measure => simp [Go.RowKit.intOf]; omega
    · have J3 := Lib.hid hJ3
      clear hJ3 hy hR e0 e1 e2
      gi_wp2
      refine bodyPost_ret (results_none rfl _ _ _) rfl ⟨⟨_, rfl⟩, .inr ⟨fitsN m l n k ++ [⟨k, hlt⟩], trivial, J3.out⟩⟩
end Go.Proofs.YtdmegkkifiahdaaGreat
/- The walks of package symbol: the translation. -/
namespace Go.Proofs.YtdmegkkifiahdaaGreat
open Go.RowKit Go.Shelf
section
attribute [local go_sem] bqOp bqAll bqUpon ssOp ssAll sqUpon
attribute [local irreducible] wpQuiet wpBQ wpPlan wsPlan
attribute [local go_sem] Oper.semAt_some
set_option linter.unusedVariables false
def stepM (l : List Mk) {n : Nat} (b : Mk) (i : Fin n) : Mk := if (l.getD i.1 noMk).cls < b.cls then l.getD i.1 noMk else b
def foldM (l : List Mk) {n : Nat} (pre : List (Fin n)) : Mk := pre.foldl (stepM l) ⟨0, 0, 10⟩
theorem foldM_snoc (l : List Mk) {n : Nat} (pre : List (Fin n)) (i : Fin n) : foldM l (pre ++ [i]) = if (l.getD i.1 noMk).cls < (foldM l pre).cls then l.getD i.1 noMk else foldM l pre := by
  unfold foldM
  rw [List.foldl_append]
  rfl
theorem bestM_snoc (m : Mk) : ∀ (l : List Mk) (x b : Mk), bestM m (l ++ [x]) b = (if fitB m x = true ∧ x.cls < (bestM m l b).cls then x else bestM m l b)
  | [], x, b => by
    show bestM m [x] b = _
    unfold bestM bestM fitB
    simp only [decide_eq_true_eq, and_assoc]
  | y :: l, x, b => by
    show bestM m (y :: (l ++ [x])) b = _
    unfold bestM
    exact bestM_snoc m l x _
theorem fold_best (m : Mk) (l : List Mk) {n : Nat} (hn : n = l.length) : ∀ k, k ≤ n → foldM l (fitsN m l n k) = bestM m (l.take k) ⟨0, 0, 10⟩
  | 0, _ => rfl
  | k + 1, h => by
    have ih := fold_best m l hn k (by omega)
    have hk : k < l.length := by omega
    have e : l.take (k + 1) = l.take k ++ [l.getD k noMk] := by
      rw [List.take_succ_eq_append_getElem hk, List.getD_eq_getElem?_getD, List.getElem?_eq_getElem hk]
      rfl
    rw [e, bestM_snoc, fitsN_snoc (by omega : k < n), ← ih]
    by_cases hf : fitB m (l.getD k noMk) = true
    · rw [if_pos hf, foldM_snoc]
      simp only [hf, true_and]
    · rw [if_neg hf, List.append_nil, if_neg (fun h => hf h.1)]
set_option maxRecDepth 20000 in
set_option maxHeartbeats 1000000 in
theorem sytrans_any (f : Int) (l : List Mk) (v0 : Value) (m : Mk) (w : World) (h : MksAt w v0 l) (h100 : l.length ≤ 100) {r : Mk} (hr : bestM m l ⟨0, 0, 10⟩ = r) :
    Calls Tryz.prog 138 #[.agg #[.int .i64 f, v0], .agg #[.int .i64 m.sym, .int .i64 m.kind, .int .i64 m.cls]] w fun e w' => e = .returned (.tuple #[markV r, .bool (decide (r.cls ≤ 9))]) ∧ Below w.heap.size w w' := by
  obtain ⟨ad, c, rfl, h1, hn⟩ := Rows.form h
  have HR := Lib.hid h1
  have HB := Lib.hid (show foldM l (fitsN m l l.length l.length) = r by rw [fold_best m l rfl _ (Nat.le_refl _), List.take_length, hr])
  obtain ⟨n, hln⟩ : ∃ n, l.length = n := ⟨_, rfl⟩
  rw [hln] at HR hn h100 HB
  rw [hln]
  clear h h1 hr hln
  have HM := Lib.hid (show (⟨m.sym, m.kind, m.cls⟩ : Mk) = m from rfl)
  refine (callsIn_wide (n := 5)).1 ?_
  refine callsIn_of_wp_marks Tryz.func138 rfl trivial ?_ rfl
  simp only [Tryz.ntmps138, List.append_toArray, List.cons_append, List.nil_append, List.size_toArray, List.length_cons, List.length_nil, Nat.reduceAdd, Nat.reduceSub, Array.replicate_succ, Array.replicate_zero, List.push_toArray]
  gi_wp2
  refine ⟨trivial, ?_⟩
  refine (callsIn_wide.2 (symarks_any ⟨f, l⟩ _ _ _ _ _)).mono ?_
  rintro e w' ⟨rfl, rfl⟩
  gi_wp2
  generalize hW0 : (World.alloc _ _) = W0
  have hs0 : W0.heap.size = w.heap.size + 6 := by subst hW0; simp
  obtain ⟨p1, p2, p3, p4, p5, p6, hB0⟩ := box6 hW0.symm
  clear hW0
  refine wpIn_rangeFunc_round (F := Fence.wide) (n := 5) rfl (by omega) (gf := 316) (lb := #[.pointer (some ⟨w.heap.size + 4, 0, none⟩), .pointer (some ⟨w.heap.size + 5, 0, none⟩)]) rfl trivial (enters_of Tryz.func316 (by kernel_rfl) rfl)
    (symarks1_stops l n c ad f m (w.heap.size + 4) (w.heap.size + 5) w.heap.size 4 (by omega) w W0 HR.out (by omega) hB0 (Nat.le_refl _) (by omega) (by omega) (by omega) p5 p6)
    EdgeK.trans (edgeK_b (by omega) (by omega)) (Below.refl _ _) (fun _ => rfl)
    (fun pre W => W.heap[w.heap.size + 3]? = some (.cells #[.int .i64 (foldM l pre).sym, .int .i64 (foldM l pre).kind, .int .i64 (foldM l pre).cls] 166 (0, 0)) ∧ W.heap[w.heap.size + 2]? = some (.cells #[.int .i64 0, .int .i64 0, .int .i64 0] 166 (0, 0)) ∧ EdgeK w.heap.size (w.heap.size + 5) W0 W)
    (fun _ _ _ => False) (OwnFrom.and blk_own (OwnFrom.and blk_own (edgeK_own (by omega) (by omega) (by omega) (by omega)))) (fun c s W W' row h _ _ => h.elim) ⟨p4, p3, EdgeK.refl _ _ _⟩ ?round ?done ?stop
  case round =>
    rintro l1 pre x W ⟨q1, q2, hK⟩
    have hsW := hK.below.size
    obtain ⟨⟨s, kd, cl⟩, hx⟩ : ∃ y, l.getD x.1 noMk = y := ⟨_, rfl⟩
    have HX := Lib.hid hx
    unfold encM
    rw [hx]
    clear hx
    dsimp only [markV]
    gi_wp2
    have hbl := (Below.refl W.heap.size W).alloc (Nat.le_refl _) (.cells #[.int .i64 s, .int .i64 kd, .int .i64 cl] 166)
    refine ⟨(KeepsOthers.alloc _ _).from _, EdgeK.of_below hbl (by omega) (by omega), ⟨block_later hbl q1, block_later hbl q2, hK.trans (EdgeK.of_below hbl (by omega) (by omega))⟩, ?_⟩
    rintro l2 pre2 W2 hT hl2 hr2 ⟨q1, q2, hK2⟩ hlen
    have hbx := hT.cs (block_new W (.cells #[.int .i64 s, .int .i64 kd, .int .i64 cl] 166))
    have x0 := cell_block hbx 0
    have x1 := cell_block hbx 1
    have x2 := cell_block hbx 2
    obtain ⟨⟨bs, bk, bc⟩, hb⟩ : ∃ y, foldM l pre2 = y := ⟨_, rfl⟩
    have FS := Lib.hid (show foldM l (pre2 ++ [x]) = if cl < bc then ⟨s, kd, cl⟩ else ⟨bs, bk, bc⟩ by rw [foldM_snoc, HX.out, hb])
    have FB := Lib.hid hb
    rw [hb] at q1
    dsimp only at q1
    have s0 := cell_block q1
    have s1 := free_block q1
    have Q1 := Lib.hid q1
    have Q2 := Lib.hid q2
    have K2 := Lib.hid hK2
    have hsz2 : W.heap.size + 1 ≤ W2.heap.size := by have := hT.size; simpa using this
    clear q1 q2 hK2 hT hK hbx hbl hb
    by_cases hlt : cl < bc
    · have F2 : Hid (foldM l (pre2 ++ [x]) = ⟨s, kd, cl⟩) := Lib.hid (by rw [FS.out, if_pos hlt])
      gi_wp2
      refine ⟨(((KeepsOthers.setCell _ _ _).trans (KeepsOthers.setCell _ _ _)).trans (KeepsOthers.setCell _ _ _)).from _, ((EdgeK.set _ _ _ (by omega) (by omega)).trans (EdgeK.set _ _ _ (by omega) (by omega))).trans (EdgeK.set _ _ _ (by omega) (by omega)), ?_, ?_, K2.out.trans (((EdgeK.set _ _ _ (by omega) (by omega)).trans (EdgeK.set _ _ _ (by omega) (by omega))).trans (EdgeK.set _ _ _ (by omega) (by omega)))⟩
      · rw [F2.out]
        exact block_set (block_set (block_set Q1.out _) _) _
      · exact block_far (block_far (block_far Q2.out (by simp) _) (by simp) _) (by simp) _
    · have F2 : Hid (foldM l (pre2 ++ [x]) = ⟨bs, bk, bc⟩) := Lib.hid (by rw [FS.out, if_neg hlt])
      have d : decide (cl < bc) = false := by simpa using hlt
      gi_wp2
      exact ⟨KeepsFrom.refl _ _, EdgeK.refl _ _ _, by rw [F2.out]; exact Q1.out, Q2.out, K2.out⟩
  case done =>
    rintro D xs W hD rfl ⟨q1, q2, hK⟩ hdef
    rw [HB.out] at q1
    obtain ⟨rs, rk, rc⟩ := r
    dsimp only at q1
    have HD := Lib.hid hdef
    have K := Lib.hid hK
    have F1 : ∀ w', KeepB W w.heap.size [w.heap.size + 3] w' → ∀ i, w'.cell? ⟨w.heap.size + 3, i, none⟩ = #[.int .i64 rs, .int .i64 rk, .int .i64 rc][i]? := fun w' hw i => cell_block (hw.at (by simp) q1) i
    have c1 := cell_block q1
    have c2 := cell_block q2
    have e2 := free_block q2
    clear hdef hK
    gi_wp2
    refine wpIn_wide.2 ?_
    refine wp_region_planS (KeepB W w.heap.size [w.heap.size + 3]) (.take 0 (.take 0 (.take 0 (.take 0 (.only 0 (.take 0 .done)))))) (by kernel_rfl) (by kernel_rfl) KeepB.refl (fun hP => ?_)
    repeat' (first
      | (refine wsPlan_take rfl (fun K hK => ?_); replace hK := Lib.hid hK; go_simp; first | (refine hK.out _ ?_; clear hK K) | (apply Exists.intro; refine ⟨fun w' hw => ?_, hK.out _ ?_⟩; (first | with_reducible exact rfl | (have f1 := F1 w' hw; go_simp; exact rfl)); clear hK K))
      | (refine wsPlan_only rfl (fun K hK => ?_); replace hK := Lib.hid hK; go_simp; refine hK.out _ _ (by first | exact ((hP.setCell (by omega) (by simp <;> omega) _).setCell (by omega) (by simp <;> omega) _).setCell (by omega) (by simp <;> omega) _ | exact hP) (fun hP => ?_); clear hK K))
    refine wsPlan_done ?_
    gi_wp2
    have hne : w.heap.size + 2 ≠ D := fun e => by omega
    have H2 := Lib.hid (block_far (a := ⟨w.heap.size + 2, 2, none⟩) (block_far (a := ⟨w.heap.size + 2, 1, none⟩) (block_far (a := ⟨w.heap.size + 2, 0, none⟩) HD.out (Ne.symm hne) (.int .i64 rs)) (Ne.symm hne) (.int .i64 rk)) (Ne.symm hne) (.int .i64 rc))
    refine ⟨by simp, .inl ⟨_, _, rfl, run_takeDeferred H2.out, ?_⟩⟩
    have h9 := ((World.putObj_heap_other (o := .deferred none) hne).trans (block_set (i := 2) (block_set (i := 1) (block_set (i := 0) q2 (.int .i64 rs)) (.int .i64 rk)) (.int .i64 rc)))
    refine ⟨.tuple #[.agg #[.int .i64 rs, .int .i64 rk, .int .i64 rc], .bool (decide (rc ≤ 9))], ?_, rfl, ?_⟩
    · generalize hZ : World.putObj _ _ _ = Z
      have h8 : Z.heap[w.heap.size + 2]? = some (.cells #[.int .i64 rs, .int .i64 rk, .int .i64 rc] 166 (0, 0)) := by rw [← hZ]; exact h9
      have c9 := cell_block h8
      simp [results, Tryz.results138, go_sem, c9]
    · exact hB0.trans (K.out.below.trans ((((Below.refl w.heap.size W).setCell (p := ⟨w.heap.size + 2, 0, none⟩) (by dsimp only; omega) _).setCell (p := ⟨w.heap.size + 2, 1, none⟩) (by dsimp only; omega) _).setCell (p := ⟨w.heap.size + 2, 2, none⟩) (by dsimp only; omega) _ |>.drew.trans (belowK_b (w := w) (Nat.le_refl _) _ D _ _ (by omega) H2.out rfl rfl)))
  case stop =>
    rintro D c pre W _ _ h _
    exact h.elim
end
end Go.Proofs.YtdmegkkifiahdaaGreat
/- The walk of symbol.Translate. -/
namespace Go.Proofs.YtdmegkkifiahdaaGreat
open Go.RowKit Go.Shelf
attribute [local go_sem] bqOp bqAll bqUpon sqOp sqAll sqUpon
attribute [local irreducible] wpQuiet wpBQ wpPlan
set_option linter.unusedVariables false
theorem ret_two {a b c d : Int} (h1 : a = c) (h2 : b = d) : Ending.returned (.tuple #[.int .i64 a, .int .i64 b]) = Ending.returned (.tuple #[.int .i64 c, .int .i64 d]) := by rw [h1, h2]
def ansT (l : List Mk) : Option Mk → Int × Int
  | none => (0, 11)
  | some m => if (bestM m l ⟨0, 0, 10⟩).cls ≤ 9 then ((bestM m l ⟨0, 0, 10⟩).sym, 0) else (0, 4)
/-- What Translate answers: the symbol and the error. -/
def trR (a b : Bk) (n : Int) : Int × Int := if BkOk a ∧ BkOk b ∧ 0 ≤ n ∧ n ≤ 999 then ansT b.marks (findM a.marks n) else (0, 1)
set_option maxHeartbeats 4000000 in
theorem syTranslate_any (a b : Bk) (va vb : Value) (n : Int) (w : World) (ha : MksAt w va a.marks) (hb : MksAt w vb b.marks) {s k : Int} (hr : trR a b n = (s, k)) :
    Calls Tryz.prog 49 #[bookV a va, bookV b vb, .int .i64 n] w fun e w' => e = .returned (.tuple #[.int .i64 s, .int .i64 k]) ∧ Below w.heap.size w w' := by
  obtain ⟨aa, ca, rfl, ha1, _⟩ := Rows.form ha
  obtain ⟨ab, cb, rfl, hb1, _⟩ := Rows.form hb
  have HA := Lib.hid (show MksAt w (.slice aa a.marks.length ca) a.marks from ha1)
  have HB := Lib.hid (show MksAt w (.slice ab b.marks.length cb) b.marks from hb1)
  obtain ⟨u1, hu1⟩ : ∃ v, decide (BkOk a) = v := ⟨_, rfl⟩
  obtain ⟨u2, hu2⟩ : ∃ v, decide (BkOk b) = v := ⟨_, rfl⟩
  obtain ⟨u3, hu3⟩ : ∃ v, decide (0 ≤ n ∧ n ≤ 999) = v := ⟨_, rfl⟩
  have U1 := Lib.hid hu1
  have U2 := Lib.hid hu2
  have U3 := Lib.hid hu3
  have HR := Lib.hid hr
  have NO : Hid (¬ (u1 = true ∧ u2 = true ∧ u3 = true) → (0 : Int) = s ∧ (1 : Int) = k) := Lib.hid (fun h => by
    unfold trR at hr
    rw [if_neg (fun g => h ⟨by rw [← hu1]; exact decide_eq_true g.1, by rw [← hu2]; exact decide_eq_true g.2.1, by rw [← hu3]; exact decide_eq_true g.2.2⟩)] at hr
    exact ⟨congrArg Prod.fst hr, congrArg Prod.snd hr⟩)
  clear ha hb ha1 hb1 hu1 hu2 hu3 hr
  have BA : bookV a (.slice aa a.marks.length ca) = .agg #[.int .i64 a.office, .slice aa a.marks.length ca] := rfl
  have BB : bookV b (.slice ab b.marks.length cb) = .agg #[.int .i64 b.office, .slice ab b.marks.length cb] := rfl
  obtain ⟨fa, hfa⟩ : ∃ f, a.office = f := ⟨_, rfl⟩
  obtain ⟨fb, hfb⟩ : ∃ f, b.office = f := ⟨_, rfl⟩
  obtain ⟨na, hna⟩ : ∃ q, a.marks.length = q := ⟨_, rfl⟩
  obtain ⟨nb, hnb⟩ : ∃ q, b.marks.length = q := ⟨_, rfl⟩
  rw [BA, BB]
  rw [hna] at HA BA ⊢
  rw [hnb] at HB BB ⊢
  rw [hfa] at BA ⊢
  rw [hfb] at BB ⊢
  have BA := Lib.hid BA
  have BB := Lib.hid BB
  clear hfa hfb hna hnb
  go_enter Tryz.func49, Tryz.ntmps49
  go_wp2_with fail
  refine calls_named fun W hW => ?_
  obtain ⟨p1, p2, hB⟩ := box2 hW
  clear hW
  have q1 := cellsL p1
  have q2 := cellsL p2
  clear p1 p2
  rw [← BA.out]
  (with_reducible refine (syValid_any a _ _ (HA.out.later hB) U1.out).mono ?_)
  rintro e w1 ⟨rfl, hb1⟩
  have hB1 := below_step hB hb1
  cases u1
  · have NO := NO.out (by simp)
    go_wp2_with fail
    go_ret2
    exact ⟨ret_two NO.1 NO.2, hB1⟩
  have OKA := Lib.hid (of_decide_eq_true U1.out)
  have c1 := q2 _ hb1
  go_wp2_with fail
  rw [← BB.out]
  (with_reducible refine (syValid_any b _ _ (HB.out.later hB1) U2.out).mono ?_)
  rintro e w2 ⟨rfl, hb2⟩
  have hB2 := below_step hB1 hb2
  have hW2 := below_step hb1 hb2
  clear c1
  cases u2
  · have NO := NO.out (by simp)
    go_wp2_with fail
    go_ret2
    exact ⟨ret_two NO.1 NO.2, hB2⟩
  have OKB := Lib.hid (of_decide_eq_true U2.out)
  go_wp2_with fail
  (with_reducible refine (synumber_any _ _ U3.out).mono ?_)
  rintro e w3 ⟨rfl, hb3⟩
  have hB3 := below_step hB2 hb3
  have hW3 := below_step hW2 hb3
  cases u3
  · have NO := NO.out (by simp)
    go_wp2_with fail
    go_ret2
    exact ⟨ret_two NO.1 NO.2, hB3⟩
  obtain ⟨r, hr⟩ : ∃ r, findM a.marks n = r := ⟨_, rfl⟩
  have R := Lib.hid hr
  have HN : Hid (ansT b.marks r = (s, k)) := Lib.hid (by
    have := HR.out
    unfold trR at this
    rw [if_pos ⟨OKA.out, OKB.out, of_decide_eq_true U3.out⟩, hr] at this
    exact this)
  clear hr NO
  have c1 := q1 _ hW3
  go_wp2_with fail
  rw [← BA.out]
  (with_reducible refine (syfind_any a _ n _ (HA.out.later hB3) (marks_of OKA.out).1 (marks_of OKA.out).2 R.out).mono ?_)
  rintro e w4 ⟨rfl, hb4⟩
  have hB4 := below_step hB3 hb4
  have hW4 := below_step hW3 hb4
  clear c1
  cases r with
  | none =>
    dsimp only [Option.getD, Option.isSome, markV, noMk]
    go_wp2_with fail
    have HN1 := congrArg Prod.fst HN.out
    have HN2 := congrArg Prod.snd HN.out
    dsimp only [ansT] at HN1 HN2
    go_ret2
    exact ⟨ret_two HN1 HN2, hB4.alloc hB4.size _⟩
  | some x =>
    obtain ⟨xs, xk, xc⟩ := x
    dsimp only [Option.getD, Option.isSome, markV, noMk]
    have r3 := block_new w4 (.cells #[.int .i64 xs, .int .i64 xk, .int .i64 xc] 166)
    have hW5 := hW4.alloc hW4.size (.cells #[.int .i64 xs, .int .i64 xk, .int .i64 xc] 166)
    have hB5 := hB4.alloc hB4.size (.cells #[.int .i64 xs, .int .i64 xk, .int .i64 xc] 166)
    have d3 := cell_block r3
    have c2 := q2 _ hW5
    go_wp2_with fail
    obtain ⟨t, ht⟩ : ∃ t, bestM ⟨xs, xk, xc⟩ b.marks ⟨0, 0, 10⟩ = t := ⟨_, rfl⟩
    have T := Lib.hid ht
    have HN3 : Hid ((if t.cls ≤ 9 then (t.sym, (0 : Int)) else (0, 4)) = (s, k)) := Lib.hid (by rw [← HN.out, ← ht]; rfl)
    clear ht c2 d3
    have hBL : Hid (MksAt (w4.alloc (.cells #[.int .i64 xs, .int .i64 xk, .int .i64 xc] 166)) (.slice ab nb cb) b.marks) := Lib.hid (HB.out.later hB5)
    (with_reducible refine (sytrans_any fb b.marks _ ⟨xs, xk, xc⟩ _ hBL.out (marks_of OKB.out).2 T.out).mono ?_)
    rintro e w5 ⟨rfl, hb5⟩
    have hB6 := below_step hB5 hb5
    have r5 := block_later hb5 r3
    have f5 := free_block r5
    have d5 := cell_block r5
    have R5 := Lib.hid r5
    clear r5 r3
    obtain ⟨ts, tk, tc⟩ := t
    dsimp only [markV] at HN3 ⊢
    by_cases hc : tc ≤ 9
    · have d : decide (tc ≤ 9) = true := decide_eq_true hc
      have HN4 := HN3.out
      rw [if_pos hc] at HN4
      rw [d]
      go_wp2_with fail
      have c9 := cell_block (block_set (i := 2) (block_set (i := 1) (block_set (i := 0) R5.out (.int .i64 ts)) (.int .i64 tk)) (.int .i64 tc))
      go_wp2_with fail
      go_ret2
      exact ⟨ret_two (congrArg Prod.fst HN4) (congrArg Prod.snd HN4), ((hB6.setCell (by have := hB4.size; dsimp only; omega) _).setCell (by have := hB4.size; dsimp only; omega) _).setCell (by have := hB4.size; dsimp only; omega) _⟩
    · have d : decide (tc ≤ 9) = false := decide_eq_false hc
      have HN4 := HN3.out
      rw [if_neg hc] at HN4
      rw [d]
      go_wp2_with fail
      go_ret2
      exact ⟨ret_two (congrArg Prod.fst HN4) (congrArg Prod.snd HN4), ((hB6.setCell (by have := hB4.size; dsimp only; omega) _).setCell (by have := hB4.size; dsimp only; omega) _).setCell (by have := hB4.size; dsimp only; omega) _⟩
end Go.Proofs.YtdmegkkifiahdaaGreat
