/- The walks of feature.Same, slices.EqualFunc of features by it, feature.List. -/
import Derived.Test.YtdmegkkifiahdaaGreatFeatB
import Derived.Test.YtdmegkkifiahdaaGreatEq
namespace Go.Proofs.YtdmegkkifiahdaaGreat
open Go.RowKit
attribute [local go_sem] bqOp bqAll bqUpon sqOp sqAll sqUpon
attribute [local irreducible] wpQuiet wpBQ wpPlan
set_option linter.unusedVariables false
theorem ptsL {w w' : World} {v : Value} {l : List (Int × Int)} (h : PtsAt w v l) (hb : Below w.heap.size w w') : PtsAt w' v l := Lists.later h hb
theorem secsL {w w' : World} {v : Value} {l : List Sec} (h : SecsAt w v l) (hb : Below w.heap.size w w') : SecsAt w' v l := Lists.later h hb
theorem intsL {w w' : World} {v : Value} {l : List Int} (h : IntsAt w v l) (hb : Below w.heap.size w w') : IntsAt w' v l := Lists.later h hb
theorem getD_ext {α : Type} (d : α) : ∀ {l m : List α}, l.length = m.length → (∀ i, i < l.length → l.getD i d = m.getD i d) → l = m
  | [], [], _, _ => rfl
  | [], _ :: _, h, _ => by simp at h
  | _ :: _, [], h, _ => by simp at h
  | x :: l, y :: m, h, g => by
    have h0 := g 0 (by simp)
    have ht := getD_ext d (l := l) (m := m) (by simpa using h) (fun i hi => g (i + 1) (by simp only [List.length_cons]; omega))
    simp only [List.getD_cons_zero] at h0
    rw [h0, ht]
theorem ints_eq (l m : List Int) : RowsEq 1 l.length m.length (fun i _ => l.getD i 0) (fun i _ => m.getD i 0) ↔ l = m :=
  ⟨fun h => getD_ext 0 h.1 (fun i hi => h.2 i hi 0 (by omega)), fun h => by subst h; exact ⟨rfl, fun _ _ _ _ => rfl⟩⟩
theorem pts_eq (l m : List (Int × Int)) : RowsEq 2 l.length m.length (ptX l) (ptX m) ↔ l = m :=
  ⟨fun h => getD_ext (0, 0) h.1 (fun i hi => Prod.ext (h.2 i hi 0 (by omega)) (h.2 i hi 1 (by omega))), fun h => by subst h; exact ⟨rfl, fun _ _ _ _ => rfl⟩⟩
theorem secs_eq (l m : List Sec) : RowsEq 6 l.length m.length (secX l) (secX m) ↔ l = m :=
  ⟨fun h => getD_ext ⟨0, 0, 0, 0, 0, 0⟩ h.1 (fun i hi => by
    have e0 : (l.getD i ⟨0, 0, 0, 0, 0, 0⟩).fx = (m.getD i ⟨0, 0, 0, 0, 0, 0⟩).fx := h.2 i hi 0 (by omega)
    have e1 : (l.getD i ⟨0, 0, 0, 0, 0, 0⟩).fy = (m.getD i ⟨0, 0, 0, 0, 0, 0⟩).fy := h.2 i hi 1 (by omega)
    have e2 : (l.getD i ⟨0, 0, 0, 0, 0, 0⟩).tx = (m.getD i ⟨0, 0, 0, 0, 0, 0⟩).tx := h.2 i hi 2 (by omega)
    have e3 : (l.getD i ⟨0, 0, 0, 0, 0, 0⟩).ty = (m.getD i ⟨0, 0, 0, 0, 0, 0⟩).ty := h.2 i hi 3 (by omega)
    have e4 : (l.getD i ⟨0, 0, 0, 0, 0, 0⟩).col = (m.getD i ⟨0, 0, 0, 0, 0, 0⟩).col := h.2 i hi 4 (by omega)
    have e5 : (l.getD i ⟨0, 0, 0, 0, 0, 0⟩).rng = (m.getD i ⟨0, 0, 0, 0, 0, 0⟩).rng := h.2 i hi 5 (by omega)
    generalize l.getD i ⟨0, 0, 0, 0, 0, 0⟩ = a at *
    generalize m.getD i ⟨0, 0, 0, 0, 0, 0⟩ = b at *
    cases a
    cases b
    simp_all), fun h => by subst h; exact ⟨rfl, fun _ _ _ _ => rfl⟩⟩
set_option maxHeartbeats 4000000 in
theorem ftSame_raw (id1 kind1 x1 y1 rad1 dep1 sym1 id2 kind2 x2 y2 rad2 dep2 sym2 : Int) (n1 c1 m1 d1 n2 c2 m2 d2 : Nat) (a1 b1 a2 b2 : Option Addr) (A1 A2 S1 S2 : Nat → Nat → Int) (w : World)
    (hA1 : Rows 2 w (.slice a1 n1 c1) n1 A1) (hA2 : Rows 2 w (.slice a2 n2 c2) n2 A2) (hS1 : Rows 6 w (.slice b1 m1 d1) m1 S1) (hS2 : Rows 6 w (.slice b2 m2 d2) m2 S2) (hn1 : n1 ≤ 9223372036854775807) (hn2 : n2 ≤ 9223372036854775807) (hm1 : m1 ≤ 9223372036854775807) (hm2 : m2 ≤ 9223372036854775807)
    {v : Bool} (hv : decide ((id1 = id2 ∧ kind1 = kind2 ∧ x1 = x2 ∧ y1 = y2 ∧ rad1 = rad2 ∧ dep1 = dep2 ∧ sym1 = sym2) ∧ RowsEq 2 n1 n2 A1 A2 ∧ RowsEq 6 m1 m2 S1 S2) = v) :
    Calls Tryz.prog 110 #[.agg #[.int .i64 id1, .int .i64 kind1, .int .i64 x1, .int .i64 y1, .int .i64 rad1, .slice a1 n1 c1, .int .i64 dep1, .int .i64 sym1, .slice b1 m1 d1], .agg #[.int .i64 id2, .int .i64 kind2, .int .i64 x2, .int .i64 y2, .int .i64 rad2, .slice a2 n2 c2, .int .i64 dep2, .int .i64 sym2, .slice b2 m2 d2]] w fun e w' => e = .returned (.bool v) ∧ Below w.heap.size w w' := by
  have HV := Lib.hid hv
  have HA1 := Lib.hid hA1
  have HA2 := Lib.hid hA2
  have HS1 := Lib.hid hS1
  have HS2 := Lib.hid hS2
  clear hv hA1 hA2 hS1 hS2
  by_cases gid : id1 = id2
  rotate_left
  · have d : (id1 == id2) = false := by simpa using gid
    have HF := Lib.hid (show false = v by rw [← HV.out]; exact (decide_eq_false (fun h => gid h.1.1)).symm)
    clear gid HV
    go_enter Tryz.func110, Tryz.ntmps110
    go_wp2_with fail
    go_returns
    exact ⟨ret_bool HF.out, by go_grown⟩
  subst gid
  by_cases gkind : kind1 = kind2
  rotate_left
  · have d : (kind1 == kind2) = false := by simpa using gkind
    have HF := Lib.hid (show false = v by rw [← HV.out]; exact (decide_eq_false (fun h => gkind h.1.2.1)).symm)
    clear gkind HV
    go_enter Tryz.func110, Tryz.ntmps110
    go_wp2_with fail
    go_returns
    exact ⟨ret_bool HF.out, by go_grown⟩
  subst gkind
  by_cases gx : x1 = x2
  rotate_left
  · have d : (x1 == x2) = false := by simpa using gx
    have HF := Lib.hid (show false = v by rw [← HV.out]; exact (decide_eq_false (fun h => gx h.1.2.2.1)).symm)
    clear gx HV
    go_enter Tryz.func110, Tryz.ntmps110
    go_wp2_with fail
    go_returns
    exact ⟨ret_bool HF.out, by go_grown⟩
  subst gx
  by_cases gy : y1 = y2
  rotate_left
  · have d : (y1 == y2) = false := by simpa using gy
    have HF := Lib.hid (show false = v by rw [← HV.out]; exact (decide_eq_false (fun h => gy h.1.2.2.2.1)).symm)
    clear gy HV
    go_enter Tryz.func110, Tryz.ntmps110
    go_wp2_with fail
    go_returns
    exact ⟨ret_bool HF.out, by go_grown⟩
  subst gy
  by_cases grad : rad1 = rad2
  rotate_left
  · have d : (rad1 == rad2) = false := by simpa using grad
    have HF := Lib.hid (show false = v by rw [← HV.out]; exact (decide_eq_false (fun h => grad h.1.2.2.2.2.1)).symm)
    clear grad HV
    go_enter Tryz.func110, Tryz.ntmps110
    go_wp2_with fail
    go_returns
    exact ⟨ret_bool HF.out, by go_grown⟩
  subst grad
  by_cases gdep : dep1 = dep2
  rotate_left
  · have d : (dep1 == dep2) = false := by simpa using gdep
    have HF := Lib.hid (show false = v by rw [← HV.out]; exact (decide_eq_false (fun h => gdep h.1.2.2.2.2.2.1)).symm)
    clear gdep HV
    go_enter Tryz.func110, Tryz.ntmps110
    go_wp2_with fail
    go_returns
    exact ⟨ret_bool HF.out, by go_grown⟩
  subst gdep
  by_cases gsym : sym1 = sym2
  rotate_left
  · have d : (sym1 == sym2) = false := by simpa using gsym
    have HF := Lib.hid (show false = v by rw [← HV.out]; exact (decide_eq_false (fun h => gsym h.1.2.2.2.2.2.2)).symm)
    clear gsym HV
    go_enter Tryz.func110, Tryz.ntmps110
    go_wp2_with fail
    go_returns
    exact ⟨ret_bool HF.out, by go_grown⟩
  subst gsym
  obtain ⟨u1, hu1⟩ : ∃ k, decide (RowsEq 2 n1 n2 A1 A2) = k := ⟨_, rfl⟩
  obtain ⟨u2, hu2⟩ : ∃ k, decide (RowsEq 6 m1 m2 S1 S2) = k := ⟨_, rfl⟩
  have U1 := Lib.hid hu1
  have U2 := Lib.hid hu2
  clear hu1 hu2
  go_enter Tryz.func110, Tryz.ntmps110
  go_wp2_with fail
  refine calls_named fun W hW => ?_
  obtain ⟨p1, p2, hB⟩ := box2 hW
  clear hW
  (with_reducible refine (eqPts_any _ _ _ _ _ _ _ _ _ (HA1.out.later hB) (HA2.out.later hB) hn1 hn2 U1.out).mono ?_)
  rintro e w1 ⟨rfl, hb1⟩
  have hB1 := below_step hB hb1
  have r1 := cell_block (block_later hb1 p1) 8
  have r2 := cell_block (block_later hb1 p2) 8
  cases u1
  · go_wp2_with fail
    go_returns
    exact ⟨ret_bool (by rw [← HV.out]; exact (decide_eq_false (fun h => of_decide_eq_false U1.out h.2.1)).symm), hB1⟩
  go_wp2_with fail
  (with_reducible refine (eqSecs_any _ _ _ _ _ _ _ _ _ (HS1.out.later hB1) (HS2.out.later hB1) hm1 hm2 U2.out).mono ?_)
  rintro e w2 ⟨rfl, hb2⟩
  go_wp2_with fail
  go_returns
  exact ⟨ret_bool (by rw [← HV.out, ← U2.out, decide_eq_decide]; exact ⟨fun h => ⟨by simp, of_decide_eq_true U1.out, h⟩, fun h => h.2.2⟩), below_step hB1 hb2⟩
theorem ftSame_any (f g : Feat) (va vs ua us : Value) (w : World) (ha : PtsAt w va f.area) (hs : SecsAt w vs f.secs) (ka : PtsAt w ua g.area) (ks : SecsAt w us g.secs) {v : Bool} (hv : decide (f = g) = v) :
    Calls Tryz.prog 110 #[featV f va vs, featV g ua us] w fun e w' => e = .returned (.bool v) ∧ Below w.heap.size w w' := by
  obtain ⟨ad, ca, rfl, h1, h2, h3⟩ := Lists.form ha
  obtain ⟨ae, cs, rfl, g1, g2, g3⟩ := Lists.form hs
  obtain ⟨ad', ca', rfl, h1', h2', h3'⟩ := Lists.form ka
  obtain ⟨ae', cs', rfl, g1', g2', g3'⟩ := Lists.form ks
  refine ftSame_raw _ _ _ _ _ _ _ _ _ _ _ _ _ _ _ _ _ _ _ _ _ _ _ _ _ _ _ _ _ _ w h1.rows h1'.rows g1.rows g1'.rows h2 h2' g2 g2' ?_
  rw [← hv, decide_eq_decide, pts_eq, secs_eq]
  cases f
  cases g
  simp
  constructor
  · rintro ⟨⟨rfl, rfl, rfl, rfl, rfl, rfl, rfl⟩, rfl, rfl⟩
    simp
  · rintro ⟨rfl, rfl, rfl, rfl, rfl, rfl, rfl, rfl, rfl⟩
    simp
def feats_step (l : List Feat) (k : Nat) : Prop := ∀ i, i < k → FeatOk (l.getD i noFeat) ∧ lastId l i < (l.getD i noFeat).id
theorem feats_snoc {l : List Feat} {k : Nat} (h : feats_step l k) (h1 : FeatOk (l.getD k noFeat)) (h2 : lastId l k < (l.getD k noFeat).id) : feats_step l (k + 1) := fun i hi => by
  rcases Nat.lt_or_ge i k with g | g
  · exact h i g
  · obtain rfl : i = k := by omega
    exact ⟨h1, h2⟩
set_option maxHeartbeats 1000000 in
theorem ftList_any (l : List Feat) (v0 : Value) (w : World) (h : FeatsAt w v0 l) {v : Bool} (hv : decide (FeatsOk l) = v) :
    Calls Tryz.prog 96 #[v0] w fun e w' => e = .returned (.bool v) ∧ Below w.heap.size w w' := by
  obtain ⟨ad, c, rfl, h1, hn, hc⟩ := h.form
  have HV := Lib.hid hv
  have H := Lib.hid h1
  clear hv h h1
  obtain ⟨n, hln⟩ : ∃ n, l.length = n := ⟨_, rfl⟩
  rw [hln] at H hn hc
  rw [hln]
  have HL := Lib.hid hln
  clear hln
  go_enter Tryz.func96, Tryz.ntmps96
  go_wp2
  go_loopw [3, 8] (fun t i wr => ∃ k : Nat, k ≤ n ∧ i = .int .i64 k ∧ t = .int .i64 (lastId l k) ∧ Below w.heap.size w wr ∧ feats_step l k) (fun _ i _ => n - (intOf i).toNat)
  case atStart => exact ⟨0, by omega, rfl, rfl, Below.refl _ _, fun m hm => by omega⟩
  case round =>
    obtain ⟨k, hk, rfl, rfl, hb, hall⟩ := hrel
    have ALL := Lib.hid hall
    clear hall
    rcases Nat.lt_or_ge k n with hlt | hge
    rotate_left
    · obtain rfl : k = n := by omega
      go_wp2
      go_returns
      exact ⟨ret_bool (by
        rw [← HV.out, decide_eq_decide]
        have e := HL.out
        exact ⟨fun h => ⟨by omega, by rw [e]; exact ALL.out⟩, fun h => by have := h.1; omega⟩), hb⟩
    obtain ⟨g, o, va, vs, rfl, fc⟩ := (H.out.later hb).row hlt
    obtain ⟨f, hf⟩ : ∃ f, l.getD k noFeat = f := ⟨_, rfl⟩
    rw [hf] at fc
    have HF := Lib.hid hf
    clear hf
    obtain ⟨c0, c1, c2, c3, c4, c5, c6, c7, c8, PA, SA⟩ := fc
    obtain ⟨aa, ca, rfl, _, _, _⟩ := Lists.form PA
    obtain ⟨ab, cb, rfl, _, _, _⟩ := Lists.form SA
    obtain ⟨u, hu⟩ : ∃ u, decide (FeatOk f) = u := ⟨_, rfl⟩
    have HU := Lib.hid hu
    have PA' := Lib.hid PA
    have SA' := Lib.hid SA
    obtain ⟨id, hid⟩ : ∃ i, f.id = i := ⟨_, rfl⟩
    obtain ⟨li, hli⟩ : ∃ i, lastId l k = i := ⟨_, rfl⟩
    have HI := Lib.hid hid
    have HLI := Lib.hid hli
    rw [hli]
    clear hu PA SA hid hli
    go_wp2_with fail
    refine calls_named fun W hW => ?_
    obtain ⟨p1, hBW⟩ := box1 hW
    clear hW c0 c1 c2 c3 c4 c5 c6 c7 c8
    (with_reducible refine (ftValid_any f _ _ _ (ptsL PA'.out hBW) (secsL SA'.out hBW) HU.out).mono ?_)
    rintro e w1 ⟨rfl, hb1⟩
    have hB1 := below_step (below_step hb hBW) hb1
    have p2 := block_later hb1 p1
    have r0 := cell_block p2 0
    rw [HI.out] at r0
    clear p1 p2 hBW hb1
    cases u
    · go_wp2_with fail
      go_returns
      exact ⟨ret_bool (by rw [← HV.out]; exact (decide_eq_false (fun h => by
        have := (h.2 k (by have := HL.out; omega)).1
        rw [HF.out] at this
        exact of_decide_eq_false HU.out this)).symm), hB1⟩
    by_cases hle : id ≤ li
    · go_wp2_with fail
      go_returns
      exact ⟨ret_bool (by rw [← HV.out]; exact (decide_eq_false (fun h => by
        have := (h.2 k (by have := HL.out; omega)).2
        rw [HF.out, HI.out, HLI.out] at this
        omega)).symm), hB1⟩
    · have d : decide (id ≤ li) = false := by simpa using hle
      have d2 : li < id := by omega
      have ALL2 := Lib.hid (feats_snoc ALL.out (by rw [HF.out]; exact of_decide_eq_true HU.out) (by rw [HF.out, HI.out, HLI.out]; exact d2))
      have LN := Lib.hid (show lastId l (k + 1) = id by rw [← HI.out, ← HF.out]; rfl)
      clear hle
      go_wp2_with fail
      go_roundw
      case rel => exact ⟨k + 1, by omega, by go_num, by rw [LN.out], hB1, ALL2.out⟩
      case measure => simp [intOf]; omega
end Go.Proofs.YtdmegkkifiahdaaGreat
