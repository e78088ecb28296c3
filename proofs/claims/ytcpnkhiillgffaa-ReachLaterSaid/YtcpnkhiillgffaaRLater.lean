/- For any net, pieces, track and two times, the second one not less: the statement ReachLater of chapter 33 (from the second one on a ship hears no more, and no integer of the table is greater): the law's function returns true and leaves its arguments as they were. No condition. -/
import Derived.Test.YtcpnkhiillgffaaRhB
import Derived.Test.YtcpnkhiillgffaaRhC
import Derived.Test.YtcpnkhiillgffaaRhF
import Derived.Test.YtcpnkhiillgffaaFrameR
namespace Go.Proofs.Ytcpnkhiillgffaa
open Go.ChangeShapes Go.WideShapes Go.ChangeAt Go.RowKit
attribute [local go_sem] bqOp bqAll bqUpon field_stop0 field_stop1
attribute [local irreducible] wpQuiet wpBQ
set_option linter.unusedVariables false
theorem later_count {np ne na nl : Nat} {X E A L : Nat → Nat → Int} {f g : Int} (f0 : 0 ≤ f) (hfg : f ≤ g) (hg : g ≤ 10000000) : (countR np X ne E nl L na A f).2 = (countR np X ne E nl L na A g).2 ∧ (countR np X ne E nl L na A g).1 ≤ (countR np X ne E nl L na A f).1 := by
  rw [countR_eq, countR_eq]
  unfold countQ
  by_cases h : TrackOk np X ne E nl L ∧ AirsOk na A
  · rw [if_pos ⟨h.1, h.2, by omega, by omega⟩, if_pos ⟨h.1, h.2, by omega, by omega⟩]
    exact ⟨rfl, sumW_mono hfg _⟩
  · rw [if_neg (fun k => h ⟨k.1, k.2.1⟩), if_neg (fun k => h ⟨k.1, k.2.1⟩)]
    exact ⟨rfl, Int.le_refl _⟩
/-- The rows from D on. -/
theorem Tab.drop {w : World} {g o c n D : Nat} {len : Nat → Nat} {T : Nat → Nat → Int} (h : Tab w (.slice (some ⟨g, o, none⟩) n c) n len T) : Tab w (.slice (some ⟨g, o + D, none⟩) (n - D) (c - D)) (n - D) (fun t => len (t + D)) (fun t j => T (t + D) j) := by
  obtain ⟨ad, c', e, hn, hc⟩ := h
  cases e
  refine ⟨_, _, rfl, by omega, fun t ht => ?_⟩
  obtain ⟨g', o', a, k, e, h2, h3, h4⟩ := hc (t + D) (by omega)
  cases e
  exact ⟨_, _, a, k, rfl, by rw [show o + D + t = o + (t + D) by omega]; exact h2, h3, h4⟩
def TabQR (np : Nat) (X : Nat → Nat → Int) (ne : Nat) (E : Nat → Nat → Int) (na : Nat) (A : Nat → Nat → Int) (f u : Int) (w : World) (z : Ending) (w' : World) : Prop :=
  ∃ adt ct, z = .returned (.tuple #[.slice adt (tabN np X ne E na A f u) ct, .int .i64 (tabE np X ne E na A f u)]) ∧ Below w.heap.size w w' ∧ Tab w' (.slice adt (tabN np X ne E na A f u) ct) (tabN np X ne E na A f u) (fun _ => np) (tblI X A E na f u ne) ∧ tabN np X ne E na A f u ≤ ct
theorem tabQR_no {np ne na : Nat} {X E A : Nat → Nat → Int} {f u : Int} {w w' : World} {z : Ending} (g : ¬ TblOk np X ne E na A f u) (h : z = .returned (.tuple #[.slice none 0 0, .int .i64 1]) ∧ Below w.heap.size w w') : TabQR np X ne E na A f u w z w' := by
  unfold TabQR tabN tabE
  rw [if_neg g, if_neg g]
  exact ⟨none, 0, h.1, h.2, tab_nil _ _ _, Nat.le_refl _⟩
theorem tabQR_yes {np ne na : Nat} {X E A : Nat → Nat → Int} {f u : Int} {w w' : World} {z : Ending} (g : TblOk np X ne E na A f u) (h : TabR np ne na X E A f u w z w') : TabQR np X ne E na A f u w z w' := by
  unfold TabQR tabN tabE
  rw [if_pos g, if_pos g]
  obtain ⟨tv, hz, hb, ht, ad, c, rfl, hc⟩ := h
  exact ⟨ad, c, hz, hb, ht, hc⟩
theorem hTable_allR (np c ne c2 na c4 : Nat) (ad ad2 ad4 : Option Addr) (X E A : Nat → Nat → Int) (f u : Int) (w : World) (hX : Rows 2 w (.slice ad np c) np X) (hE : Rows 4 w (.slice ad2 ne c2) ne E) (hA : Rows 4 w (.slice ad4 na c4) na A) (hn1 : np ≤ 9223372036854775807) (hn2 : ne ≤ 9223372036854775807) (hn4 : na ≤ 9223372036854775807) :
    Calls Try.prog 22 #[.agg #[.slice ad np c, .slice ad2 ne c2], .slice ad4 na c4, .int .i64 f, .int .i64 u] w (TabQR np X ne E na A f u w) := by
  by_cases g : TblOk np X ne E na A f u
  · exact (hTable_room np c ne c2 na c4 ad ad2 ad4 X E A f u w hX hE hA hn1 hn2 hn4 g.1 g.2.1 g.2.2).mono fun z w' h => tabQR_yes g h
  · exact (hTable_no np c ne c2 na c4 ad ad2 ad4 X E A f u w hX hE hA hn1 hn2 hn4 g).mono fun z w' h => tabQR_no g h
set_option maxRecDepth 100000 in
set_option maxHeartbeats 8000000 in
theorem reachLater_walk {np c ne c2 na c4 nl c3 : Nat} {ad ad2 ad4 ad3 : Option Addr} {X E A L : Nat → Nat → Int} (f g u : Int) {w : World} (hX : Rows 2 w (.slice ad np c) np X) (hE : Rows 4 w (.slice ad2 ne c2) ne E) (hA : Rows 4 w (.slice ad4 na c4) na A) (hL : Rows 2 w (.slice ad3 nl c3) nl L) :
    Calls Try.prog 9 #[.agg #[.slice ad np c, .slice ad2 ne c2], .slice ad4 na c4, .slice ad3 nl c3, .int .i64 f, .int .i64 g, .int .i64 u] w fun e w' => e = .returned (.bool true) ∧ Below w.heap.size w w' := by
  have n1 : np ≤ 9223372036854775807 := by obtain ⟨_, _, _, h, _⟩ := hX; exact h
  have n2 : ne ≤ 9223372036854775807 := by obtain ⟨_, _, _, h, _⟩ := hE; exact h
  have n4 : na ≤ 9223372036854775807 := by obtain ⟨_, _, _, h, _⟩ := hA; exact h
  have n3 : nl ≤ 9223372036854775807 := by obtain ⟨_, _, _, h, _⟩ := hL; exact h
  have HX := Lib.hid hX
  have HE := Lib.hid hE
  have HA := Lib.hid hA
  have HL := Lib.hid hL
  clear hX hE hA hL
  go_enter Try.func9, Try.ntmps9
  go_wp2_with fail
  refine calls_named fun W hW => ?_
  obtain ⟨p1, hB⟩ := box1 hW
  clear hW
  have P1 := Lib.hid p1
  clear p1
  have q1 := cellsL P1.out
  (with_reducible refine (head33_true _).mono ?_)
  rintro e w1 ⟨rfl, hB1⟩
  have hC1 := below_step hB hB1
  go_wp2_with fail
  obtain ⟨vf, hvf⟩ : ∃ v, decide (FewOk np ne na E) = v := ⟨_, rfl⟩
  have Hvf := Lib.hid hvf
  clear hvf
  (with_reducible refine (q33Few_any np c ne c2 na c4 ad ad2 ad4 E _ (HE.out.later hC1) Hvf.out).mono ?_)
  rintro e w2 ⟨rfl, hb2⟩
  have hB2 := below_step hB1 hb2
  have hC2 := below_step hB hB2
  clear hb2
  cases vf
  · go_wp2_with fail
    go_returns
    exact ⟨rfl, hC2⟩
  have FEW : FewOk np ne na E := of_decide_eq_true Hvf.out
  have FW := Lib.hid FEW
  clear FEW Hvf
  by_cases z1 : 20 < nl
  · go_wp2_with fail
    go_returns
    exact ⟨rfl, hC2⟩
  go_wp2_with fail
  obtain ⟨vt, hvt⟩ : ∃ v, decide (0 ≤ f ∧ f ≤ u ∧ u ≤ 10000000 ∧ u - f ≤ 400) = v := ⟨_, rfl⟩
  have Hvt := Lib.hid hvt
  clear hvt
  (with_reducible refine (q33Times_any f u _ Hvt.out).mono ?_)
  rintro e w3 ⟨rfl, hb3⟩
  have hB3 := below_step hB2 hb3
  have hC3 := below_step hB hB3
  clear hb3
  cases vt
  · go_wp2_with fail
    go_returns
    exact ⟨rfl, hC3⟩
  obtain ⟨t1, t2, t3, t4⟩ := of_decide_eq_true Hvt.out
  have TM := Lib.hid (show TimesOk f u from of_decide_eq_true Hvt.out)
  clear Hvt
  by_cases z2 : 60 < u - f
  · go_wp2_with fail
    go_returns
    exact ⟨rfl, hC3⟩
  by_cases z3 : g < f
  · go_wp2_with fail
    go_returns
    exact ⟨rfl, hC3⟩
  by_cases z4 : u < g
  · go_wp2_with fail
    go_returns
    exact ⟨rfl, hC3⟩
  obtain ⟨⟨cv, ce⟩, hc⟩ : ∃ r, countR np X ne E nl L na A f = r := ⟨_, rfl⟩
  obtain ⟨⟨cw, cx⟩, hd⟩ : ∃ r, countR np X ne E nl L na A g = r := ⟨_, rfl⟩
  have lc := later_count (np := np) (ne := ne) (na := na) (nl := nl) (X := X) (E := E) (A := A) (L := L) t1 (show f ≤ g by omega) (by omega)
  rw [hc, hd] at lc
  obtain ⟨rfl, lc⟩ := lc
  replace lc : cw ≤ cv := lc
  have C1 := Lib.hid hc
  have C2 := Lib.hid hd
  clear hc hd
  go_wp2_with fail
  (with_reducible refine (hCount_any np c ne c2 na c4 nl c3 ad ad2 ad4 ad3 X E A L f _ (HX.out.later hC3) (HE.out.later hC3) (HA.out.later hC3) (HL.out.later hC3) n1 n2 n3 n4 C1.out).mono ?_)
  rintro e w4 ⟨rfl, hb4⟩
  have hB4 := below_step hB3 hb4
  have hC4 := below_step hB hB4
  clear hb4
  go_wp2_with fail
  (with_reducible refine (hCount_any np c ne c2 na c4 nl c3 ad ad2 ad4 ad3 X E A L g _ (HX.out.later hC4) (HE.out.later hC4) (HA.out.later hC4) (HL.out.later hC4) n1 n2 n3 n4 C2.out).mono ?_)
  rintro e w5 ⟨rfl, hb5⟩
  have hB5 := below_step hB4 hb5
  have hC5 := below_step hB hB5
  clear hb5
  go_wp2_with fail
  (with_reducible refine (hTable_allR np c ne c2 na c4 ad ad2 ad4 X E A f u _ (HX.out.later hC5) (HE.out.later hC5) (HA.out.later hC5) n1 n2 n4).mono ?_)
  rintro e w6 ⟨ta, tc, rfl, hb6, htab, hroom⟩
  have hB6 := below_step hB5 hb6
  have hC6 := below_step hB hB6
  clear hb6
  have TT := Lib.hid htab
  have RM := Lib.hid hroom
  clear htab hroom
  have hT6 := Below.refl w6.heap.size w6
  go_wp2_with fail
  (with_reducible refine (hTable_all np c ne c2 na c4 ad ad2 ad4 X E A g u _ (HX.out.later hC6) (HE.out.later hC6) (HA.out.later hC6) n1 n2 n4).mono ?_)
  rintro e w7 ⟨ua, uc, rfl, hb7, htab⟩
  have hB7 := below_step hB6 hb7
  have hC7 := below_step hB hB7
  have hT7 := below_step hT6 hb7
  clear hb7
  have UU := Lib.hid htab
  clear htab
  by_cases ok : NetOk np X ne E ∧ AirsOk na A
  rotate_left
  · have e1 : tabE np X ne E na A f u = 1 := if_neg fun h => ok ⟨h.1, h.2.1⟩
    have e2 : tabE np X ne E na A g u = 1 := if_neg fun h => ok ⟨h.1, h.2.1⟩
    rw [e1, e2]
    clear TT UU RM e1 e2 ok
    go_wp2_with fail
    go_returns
    exact ⟨rfl, hC7⟩
  have o1 : TblOk np X ne E na A f u := ⟨ok.1, ok.2, TM.out⟩
  have o2 : TblOk np X ne E na A g u := ⟨ok.1, ok.2, by omega, by omega, by omega, by omega⟩
  obtain ⟨D, rfl⟩ : ∃ D : Nat, g = f + (D : Int) := ⟨(g - f).toNat, by omega⟩
  obtain ⟨n, hn⟩ : ∃ n, (u - (f + (D : Int)) + 1).toNat = n := ⟨_, rfl⟩
  have e1 : tabE np X ne E na A f u = 0 := if_pos o1
  have e2 : tabE np X ne E na A (f + (D : Int)) u = 0 := if_pos o2
  have e3 : tabN np X ne E na A f u = n + D := (if_pos o1).trans (by omega)
  have e4 : tabN np X ne E na A (f + (D : Int)) u = n := (if_pos o2).trans hn
  have LE : Hid (∀ t, t < n → ∀ j, tblI X A E na (f + (D : Int)) u ne t j ≤ tblI X A E na f u ne (t + D) j) := Lib.hid (fun t ht j => by
    unfold tblI
    rw [hn]
    exact tbl_later (fun i hi => (ok.1.2.2.2.2 i hi).2.2.2.1) (by omega) t ht j)
  rw [e1, e2, e3, e4]
  rw [e3] at TT RM
  rw [e4] at UU
  clear e1 e2 e3 e4 o1 o2 ok
  have n0 : 0 < n := by omega
  obtain ⟨gg, oo, _, _, rfl, _, _, _⟩ := TT.out.row (show 0 < n + D by omega)
  have nn : n ≤ 9223372036854775807 := by obtain ⟨_, _, _, h, _⟩ := UU.out; exact h
  have nd : n + D ≤ 9223372036854775807 := by obtain ⟨_, _, _, h, _⟩ := TT.out; exact h
  have DR := Lib.hid ((TT.out.later hT7).drop (D := D))
  have i1 : f + (D : Int) - f = (D : Int) := by omega
  have i2 : n + D ≤ tc := RM.out
  have i3 : tc ≠ D := by omega
  have i4 : tc - D ≠ 0 := by omega
  rw [Nat.add_sub_cancel] at DR
  have BV := Lib.hid (decide_eq_true (show TabsLe n n (fun _ => np) (fun _ => np) (tblI X A E na (f + (D : Int)) u ne) (fun t j => tblI X A E na f u ne (t + D) j) from ⟨rfl, fun t ht => ⟨rfl, fun j _ => LE.out t ht j⟩⟩))
  go_wp2_with fail
  (with_reducible refine (l33below_any n _ n _ ua _ (fun _ => np) (fun _ => np) (tblI X A E na (f + (D : Int)) u ne) (fun t j => tblI X A E na f u ne (t + D) j) _ UU.out DR.out nn nn BV.out).mono ?_)
  rintro e w8 ⟨rfl, hb8⟩
  have hB8 := below_step hB7 hb8
  have hC8 := below_step hB hB8
  have hT8 := below_step hT7 hb8
  clear hb8
  go_wp2_with fail
  go_returns
  exact ⟨rfl, hC8⟩
set_option maxRecDepth 100000 in
theorem reachLater_lifted (os : Os) (started : os.Started) (H : Type) (enc : TypeId × Value → H) :
    ReturnsInHanded {} Try.checked os 9 .any (Rows.reachLaterSpec.pre6 enc Try.prog Try.f9 Rows.reachLaterRow.domain false) (Rows.reachLaterSpec.post enc Try.prog Try.f9 false true false false) := by
  refine returnsInHanded_of_change (C := Try.checked) own_knob started (by kernel_rfl) Try.func9
    (ChangeSpec.witness6 (enc := enc) (C := Try.checked) false ⟨#[], #[.agg #[.slice none 0 0, .slice none 0 0], .slice none 0 0, .slice none 0 0, .int .i64 0, .int .i64 0, .int .i64 0], []⟩ 8 (by kernel_rfl) (by kernel_rfl) (by kernel_rfl) (by kernel_rfl)) ?_
  intro W base args ds gs before hval0 hW hcnd _
  have hval : ∀ (j : Nat) t v, Try.f9.params[j]? = some t → args[j]? = some v → Value.okWide Try.prog W .any base t v := hval0
  have hW' := hW
  obtain ⟨p, q, hA0, hV, rfl, hfz, hnd⟩ := hW
  have hA : DataW.TrodAll enc Try.prog W 0 (fun _ => true) true Try.f9.params.toList args.toList ds p := hA0
  rw [Try.params9] at hA hval
  obtain ⟨v0, vs0, d0, ds0, p0, q0, hargs, rfl, rfl, h0, r0⟩ := trodAll_cons hA
  obtain ⟨v1, vs1, d1, ds1, p1, q1, rfl, rfl, rfl, h1, r1⟩ := trodAll_cons r0
  obtain ⟨v2, vs2, d2, ds2, p2, q2, rfl, rfl, rfl, h2, r2⟩ := trodAll_cons r1
  obtain ⟨v3, vs3, d3, ds3, p3, q3, rfl, rfl, rfl, h3, r3⟩ := trodAll_cons r2
  obtain ⟨v4, vs4, d4, ds4, p4, q4, rfl, rfl, rfl, h4, r4⟩ := trodAll_cons r3
  obtain ⟨v5, vs5, d5, ds5, p5, q5, rfl, rfl, rfl, h5, r5⟩ := trodAll_cons r4
  obtain ⟨rfl, rfl, rfl⟩ := trodAll_nil r5
  obtain rfl : args = #[v0, v1, v2, v3, v4, v5] := by cases args; simp_all
  obtain ⟨rfl, rfl⟩ := trodVars_none hV
  simp only [List.append_nil] at hW' hA0
  obtain ⟨_, _, _, _, _, _, _, _, e0, hnX, hnE⟩ := open_net (hval 0 25 v0 rfl rfl) h0
  subst e0
  obtain ⟨_, _, _, _, e1, hairs⟩ := open_airs (hval 1 26 v1 rfl rfl) h1
  subst e1
  obtain ⟨_, _, _, _, e2, hlist⟩ := open_stops (hval 2 27 v2 rfl rfl) h2
  subst e2
  obtain ⟨f, e3, _, _, wf⟩ := open_int Try.underlying3 (hval 3 3 v3 rfl rfl) h3
  subst e3
  obtain ⟨g, e4, _, _, wg⟩ := open_int Try.underlying3 (hval 4 3 v4 rfl rfl) h4
  subst e4
  obtain ⟨u, e5, _, _, wu⟩ := open_int Try.underlying3 (hval 5 3 v5 rfl rfl) h5
  subst e5
  refine (reachLater_walk f g u hnX hnE hairs hlist).mono fun e W' ⟨he, hg⟩ => ?_
  subst he
  exact ⟨_, rfl, post_law laid_out (by rw [Try.params9]; intro t ht; simp only [List.mem_cons, List.not_mem_nil, or_false] at ht; rcases ht with rfl | rfl | rfl | rfl | rfl | rfl <;> exact ⟨by kernel_rfl, of_decide_eq_true (by kernel_rfl)⟩) rfl hW' hA0 rfl rfl rfl rfl Try.underlying4 hg⟩
theorem reachLater_over : Rows.reachLaterRow.holds Try.pinned (OpenSpec.ofChange Rows.reachLaterSpec) :=
  OpenClaim.holds_of_wide 9 Try.f9 rfl rfl rfl rfl rfl rfl rfl ⟨rfl, rfl, rfl, rfl, rfl⟩ rfl rfl rfl rfl rfl (by kernel_rfl) Try.func9 (by kernel_rfl)
    (of_decide_eq_true (by kernel_rfl)) (by unfold Func.isWrapper; first | (rw [if_pos (by decide +kernel)]; kernel_rfl) | (rw [if_neg (by decide +kernel)]; exact ⟨rfl, rfl⟩))
    (fun os started H enc _ => reachLater_lifted os started H enc)
theorem reachLater_holds : Rows.ReachLaterSaid :=
  reachLater_over
#print axioms reachLater_holds
end Go.Proofs.Ytcpnkhiillgffaa
