/- RefS, RefT, RefU, RefV: joined. -/
import Derived.Test.YtdmegkkifiahdaaGreatKN
import Derived.Test.YtdmegkkifiahdaaGreatShtA
import Derived.Test.YtdmegkkifiahdaaGreatShtF
import Derived.Test.YtdmegkkifiahdaaGreatAppC
import Derived.Test.YtdmegkkifiahdaaGreatShtJ
/- The walks of the reference's sheets: validity, the index of an ID, the depth shown. -/
namespace Go.Proofs.YtdmegkkifiahdaaGreat
open Go.RowKit
attribute [local go_sem] bqOp bqAll bqUpon sqOp sqAll sqUpon
attribute [local irreducible] wpQuiet wpBQ wpPlan
set_option linter.unusedVariables false
set_option maxHeartbeats 4000000 in
theorem q14Valid_any (s : Sht) (vd vf : Value) (w : World) (hd : IntsAt w vd s.don) (hf : FeatsAt w vf s.feats) {v : Bool} (hv : decide (ShtOk s) = v) :
    Calls Tryz.prog 32 #[shtV s vd vf] w fun e w' => e = .returned (.bool v) ∧ Below w.heap.size w w' := by
  obtain ⟨u1, hu1⟩ : ∃ z, decide (DatOk s.dat) = z := ⟨_, rfl⟩
  obtain ⟨u2, hu2⟩ : ∃ z, decide (DoneOk s.don ∧ s.don.length ≤ 200) = z := ⟨_, rfl⟩
  obtain ⟨u3, hu3⟩ : ∃ z, decide (FeatsOk s.feats) = z := ⟨_, rfl⟩
  have HV : Hid (v = decide ((u1 = true ∧ u2 = true ∧ u3 = true) ∧ (1 ≤ s.chart ∧ s.chart ≤ 1000) ∧ (1 ≤ s.scale ∧ s.scale ≤ 1000) ∧ (1 ≤ s.edition ∧ s.edition ≤ 1000) ∧ 1 ≤ s.cap ∧ s.cap ≤ 100000)) := Lib.hid (by
    rw [← hv, decide_eq_decide, ← hu1, ← hu2, ← hu3, decide_eq_true_iff, decide_eq_true_iff, decide_eq_true_iff]
    exact ⟨fun ⟨a, b, c, d, e, f, g, h⟩ => ⟨⟨g, ⟨a, b⟩, h⟩, c, d, e, f⟩, fun ⟨⟨g, ⟨a, b⟩, h⟩, c, d, e, f⟩ => ⟨a, b, c, d, e, f, g, h⟩⟩)
  have U1 := Lib.hid hu1
  have U2 := Lib.hid hu2
  have U3 := Lib.hid hu3
  have HD := Lib.hid hd
  have HF := Lib.hid hf
  clear hv hu1 hu2 hu3 hd hf
  go_enter Tryz.func32, Tryz.ntmps32
  go_wp2_with fail
  refine calls_named fun W hW => ?_
  obtain ⟨p0, hB0⟩ := box1 hW
  clear hW
  (with_reducible refine (q04Valid_any s.dat _ U1.out).mono ?_)
  rintro e w1 ⟨rfl, hb1⟩
  have hB1 := below_step hB0 hb1
  have p1 := block_later hb1 p0
  clear p0 hb1 hB0
  have q := cell_block p1
  go_wp2_with fail
  clear q
  (with_reducible refine (q14Done_any s.don _ _ (intsL HD.out hB1) U2.out).mono ?_)
  rintro e w2 ⟨rfl, hb2⟩
  have hB2 := below_step hB1 hb2
  have p2 := block_later hb2 p1
  clear p1 hb2 hB1
  have q := cell_block p2
  go_wp2_with fail
  clear q
  (with_reducible refine (q07List_any s.feats _ _ (HF.out.later hB2) U3.out).mono ?_)
  rintro e w3 ⟨rfl, hb3⟩
  have hB3 := below_step hB2 hb3
  have p3 := block_later hb3 p2
  clear p2 hb3 hB2
  have q := cell_block p3
  cases u1
  · go_wp2_with fail
    go_returns
    exact ⟨ret_bool (by rw [HV.out]; exact (decide_eq_false fun h => nomatch h.1.1).symm), hB3⟩
  cases u2
  · go_wp2_with fail
    go_returns
    exact ⟨ret_bool (by rw [HV.out]; exact (decide_eq_false fun h => nomatch h.1.2.1).symm), hB3⟩
  cases u3
  · go_wp2_with fail
    go_returns
    exact ⟨ret_bool (by rw [HV.out]; exact (decide_eq_false fun h => nomatch h.1.2.2).symm), hB3⟩
  have HW : Hid (v = decide ((1 ≤ s.chart ∧ s.chart ≤ 1000) ∧ (1 ≤ s.scale ∧ s.scale ≤ 1000) ∧ (1 ≤ s.edition ∧ s.edition ≤ 1000) ∧ 1 ≤ s.cap ∧ s.cap ≤ 100000)) := Lib.hid (by
    rw [HV.out, decide_eq_decide]
    exact ⟨fun h => h.2, fun h => ⟨by simp, h⟩⟩)
  clear HV U1 U2 U3 HD HF
  go_wp2
  all_goals
    go_returns
    exact ⟨ret_bool (by rw [HW.out]; (refine Bool.eq_iff_iff.2 ?_; simp only [decide_eq_true_eq, Bool.false_eq_true, false_iff]; omega)), hB3⟩
theorem q14Index_any (l : List Feat) (v0 : Value) (id : Int) (w : World) (h : FeatsAt w v0 l) {r : Int} (hr : fstI (fun i => decide ((l.getD i noFeat).id = id)) l.length = r) :
    Calls Tryz.prog 129 #[v0, .int .i64 id] w fun e w' => e = .returned (.int .i64 r) ∧ Below w.heap.size w w' := by
  obtain ⟨ad, c, rfl, h1, hn, hc⟩ := h.form
  obtain ⟨B, hB⟩ : ∃ B : Nat → Bool, (fun i => decide ((l.getD i noFeat).id = id)) = B := ⟨_, rfl⟩
  have HB : Hid (∀ i, B i = decide ((l.getD i noFeat).id = id)) := Lib.hid fun i => by rw [← hB]
  rw [hB] at hr
  clear hB
  have HR := Lib.hid hr
  have H := Lib.hid h1
  clear hr h h1
  obtain ⟨n, hln⟩ : ∃ n, l.length = n := ⟨_, rfl⟩
  rw [hln] at H hn hc HR
  rw [hln]
  clear hln
  go_enter Tryz.func129, Tryz.ntmps129
  go_wp2_with fail
  go_loopw [5] (fun i wr => ∃ k : Nat, k ≤ n ∧ i = .int .i64 k ∧ Below w.heap.size w wr ∧ ∀ j, j < k → B j = false) (fun i _ => n - (intOf i).toNat)
  case atStart => exact ⟨0, by omega, rfl, Below.refl _ _, fun j hj => by omega⟩
  case round =>
    obtain ⟨k, hk, rfl, hb, hall⟩ := hrel
    have ALL := Lib.hid hall
    clear hall
    rcases Nat.lt_or_ge k n with hlt | hge
    rotate_left
    · obtain rfl : k = n := by omega
      have E : Hid (-1 = r) := Lib.hid (by rw [← HR.out]; exact (fstI_none ALL.out).symm)
      clear HR
      go_wp2_with fail
      go_returns
      exact ⟨ret_int E.out, hb⟩
    obtain ⟨g, o, va, vs, rfl, fc⟩ := (H.out.later hb).row hlt
    have c0 := fc.c0
    obtain ⟨x, hx⟩ : ∃ x, (l.getD k noFeat).id = x := ⟨_, rfl⟩
    have HBk : Hid (B k = decide (x = id)) := Lib.hid (by rw [HB.out, hx])
    rw [hx] at c0
    clear fc hx
    by_cases hid : x = id
    · have d : (x == id) = true := by simpa using hid
      have E : Hid ((k : Int) = r) := Lib.hid (by rw [← HR.out]; exact (fstI_at hlt ALL.out (by rw [HBk.out]; exact decide_eq_true hid)).symm)
      clear hid HR
      go_wp2_with fail
      go_returns
      exact ⟨ret_int E.out, hb⟩
    · have d : (x == id) = false := by simpa using hid
      have NB : Hid (B k = false) := Lib.hid (by rw [HBk.out]; exact decide_eq_false hid)
      clear hid
      go_wp2_with fail
      go_roundw
      case rel => exact ⟨k + 1, by omega, by go_num, hb, fun j hj => by
        rcases Nat.lt_or_ge j k with h | h
        · exact ALL.out j h
        · obtain rfl : j = k := by omega
          exact NB.out⟩
      case measure => simp [intOf]; omega
def shown14 (s : Sht) (x y : Int) : Int × Int := if ShtOk s ∧ Vld x y then (min (shownI s.feats x y s.feats.length) s.cap, 0) else (0, 1)
set_option maxHeartbeats 1000000 in
theorem q14Shown_any (s : Sht) (vd vf : Value) (qx qy : Int) (w : World) (hd : IntsAt w vd s.don) (hf : FeatsAt w vf s.feats) {v k : Int} (hr : shown14 s qx qy = (v, k)) :
    Calls Tryz.prog 45 #[shtV s vd vf, .agg #[.int .i64 qx, .int .i64 qy]] w fun e w' => e = .returned (.tuple #[.int .i64 v, .int .i64 k]) ∧ Below w.heap.size w w' := by
  obtain ⟨u, hu⟩ : ∃ z, decide (ShtOk s) = z := ⟨_, rfl⟩
  obtain ⟨d, e7, h7⟩ : ∃ (d e : Int), shownQ7 s.feats qx qy = (d, e) := ⟨_, _, rfl⟩
  have HU := Lib.hid hu
  have H7 := Lib.hid h7
  have HR := Lib.hid hr
  have HD := Lib.hid hd
  have HF := Lib.hid hf
  clear hu h7 hr hd hf
  go_enter Tryz.func45, Tryz.ntmps45
  go_wp2_with fail
  refine calls_named fun W hW => ?_
  obtain ⟨p1, p2, hB0⟩ := box2 hW
  clear hW
  (with_reducible refine (q14Valid_any s _ _ _ (intsL HD.out hB0) (HF.out.later hB0) HU.out).mono ?_)
  rintro e w1 ⟨rfl, hb1⟩
  have hB1 := below_step hB0 hb1
  have P1 := Lib.hid (block_later hb1 p1)
  have P2 := Lib.hid (block_later hb1 p2)
  clear p1 p2 hb1 hB0
  have q1 := cell_block P1.out
  have q2 := cell_block P2.out
  go_wp2_with fail
  clear q1 q2
  (with_reducible refine (q07Shown_any s.feats _ _ _ _ (HF.out.later hB1) H7.out).mono ?_)
  rintro e w2 ⟨rfl, hb2⟩
  have hB2 := below_step hB1 hb2
  have q1 := cell_block (block_later hb2 P1.out)
  clear P1 P2 hb2 hB1
  cases u
  · have E : Hid (v = 0 ∧ k = 1) := Lib.hid (by
      have := HR.out
      unfold shown14 at this
      rw [if_neg (fun h => of_decide_eq_false HU.out h.1)] at this
      cases this
      exact ⟨rfl, rfl⟩)
    clear HR H7
    go_wp2_with fail
    go_returns
    exact ⟨ret_ii E.out.1.symm E.out.2.symm, hB2⟩
  have OK := Lib.hid (of_decide_eq_true HU.out)
  by_cases hv : Vld qx qy
  · have h7 := H7.out
    unfold shownQ7 at h7
    rw [if_pos ⟨OK.out.2.2.2.2.2.2.2, hv⟩] at h7
    cases h7
    obtain ⟨d, hd⟩ : ∃ d, shownI s.feats qx qy s.feats.length = d := ⟨_, rfl⟩
    have E : Hid (v = (if s.cap < d then s.cap else d) ∧ k = 0) := Lib.hid (by
      have := HR.out
      unfold shown14 at this
      rw [if_pos ⟨OK.out, hv⟩, hd] at this
      cases this
      refine ⟨?_, rfl⟩
      split <;> omega)
    rw [hd]
    clear hd hv HR H7
    by_cases hm : s.cap < d
    · have E2 : Hid (v = s.cap) := Lib.hid (by rw [E.out.1, if_pos hm])
      go_wp2_with fail
      go_returns
      exact ⟨ret_ii E2.out.symm E.out.2.symm, hB2⟩
    · have E2 : Hid (v = d) := Lib.hid (by rw [E.out.1, if_neg hm])
      go_wp2_with fail
      go_returns
      exact ⟨ret_ii E2.out.symm E.out.2.symm, hB2⟩
  · have h7 := H7.out
    unfold shownQ7 at h7
    rw [if_neg (fun h => hv h.2)] at h7
    cases h7
    have E : Hid (v = 0 ∧ k = 1) := Lib.hid (by
      have := HR.out
      unfold shown14 at this
      rw [if_neg (fun h => hv h.2)] at this
      cases this
      exact ⟨rfl, rfl⟩)
    clear HR H7 hv
    go_wp2_with fail
    go_returns
    exact ⟨ret_ii E.out.1.symm E.out.2.symm, hB2⟩
end Go.Proofs.YtdmegkkifiahdaaGreat
/- The walks of the reference: the integers of a feature and of a sheet, and their digest. -/
namespace Go.Proofs.YtdmegkkifiahdaaGreat
open Go.RowKit
attribute [local go_sem] bqOp bqAll bqUpon sqOp sqAll sqUpon ssOp ssAll
attribute [local irreducible] wpQuiet wpBQ wpPlan wsPlan
set_option linter.unusedVariables false
theorem flat_take {α : Type} (enc : α → List Int) (d : α) {l : List α} {k : Nat} (hk : k < l.length) : (l.take (k + 1)).flatMap enc = (l.take k).flatMap enc ++ enc (l.getD k d) := by
  rw [List.take_succ_eq_append_getElem hk, List.flatMap_append, List.getD_eq_getElem?_getD, List.getElem?_eq_getElem hk]
  simp
theorem flat_takes {α : Type} (enc : α → List Int) (b : Nat) (l : List α) (k : Nat) (h : ∀ x ∈ l, (enc x).length ≤ b) : ((l.take k).flatMap enc).length ≤ l.length * b := by
  have h1 := flat_lenS enc b (l.take k) (fun x hx => h x (List.mem_of_mem_take hx))
  have h2 : (l.take k).length * b ≤ l.length * b := Nat.mul_le_mul_right b (by rw [List.length_take]; omega)
  omega
set_option maxHeartbeats 8000000 in
theorem q14feature_any (f : Feat) (aa ab : Option Addr) (ca cb : Nat) (w : World) (hA : PtsAt w (.slice aa f.area.length ca) f.area) (hS : SecsAt w (.slice ab f.secs.length cb) f.secs) (la : f.area.length ≤ 24) (ls : f.secs.length ≤ 12) :
    Calls Tryz.prog 218 #[featV f (.slice aa f.area.length ca) (.slice ab f.secs.length cb)] w (GivesL (encFeat f) w) := by
  obtain ⟨u, hu⟩ : ∃ u, decide (DiscK f.kind) = u := ⟨_, rfl⟩
  have HU := Lib.hid hu
  have HA := Lib.hid hA.rows
  have HS := Lib.hid hS.rows
  clear hu hA hS
  go_enter Tryz.func218, Tryz.ntmps218
  go_wp2_with fail
  refine calls_named fun W hW => ?_
  have O0 := Lib.hid (OwnI.lit (base := w.heap.size + 1) [f.id, f.kind, f.sym] hW (by simp) rfl (Nat.le_refl _) (by unfold maxLen; simp))
  obtain ⟨p1, p2, hB⟩ := box2 hW
  have hsW : W.heap.size = w.heap.size + 2 := by rw [hW]; simp
  clear hW p2
  have BX := Lib.hid (fun w' (h : Below (w.heap.size + 1) W w') => (h.block w.heap.size (by omega)).trans p1)
  clear p1
  (with_reducible refine (q07Disc_any _ _ HU.out).mono ?_)
  rintro e w1 ⟨rfl, hb1⟩
  have hs1 := hb1.size
  have hB1 := below_step hB hb1
  have O1 := Lib.hid (O0.out.keep hb1)
  have hW1 : Below (w.heap.size + 1) W w1 := hb1.mono (by omega)
  have b1 := BX.out w1 hW1
  have q1 := cell_block b1
  cases u
  rotate_left
  · have E := Lib.hid (encFeat_disc (of_decide_eq_true HU.out))
    have O2 := Lib.hid (O1.out.keep ((Below.refl w1.heap.size w1).alloc (Nat.le_refl _) (.cells #[.int .i64 f.x, .int .i64 f.y, .int .i64 f.rad, .int .i64 f.dep] 3)))
    go_wp2_with (at_builtin; refine wpList_app rfl _ _ rfl (w.heap.size + 1) _ [f.id, f.kind, f.sym] [f.x, f.y, f.rad, f.dep] rfl O2.out _ 4 _ rfl rfl (lit_ints [f.x, f.y, f.rad, f.dep] rfl rfl rfl (by unfold maxLen; simp)) (by simp) (by simp; omega) ?_; intro ad3 c3 w3 hown3 hb3)
    have O3 := Lib.hid hown3
    have hB3 : Below w.heap.size w w3 := (hB1.trans ((Below.refl w.heap.size w1).alloc (by omega) _)).trans (hb3.mono (by omega))
    clear hown3 hb3
    go_wp2_with fail
    go_returns
    rw [E.out]
    exact ⟨ad3, c3, rfl, O3.out.ints (by simp), hB3⟩
  have ND := of_decide_eq_false HU.out
  by_cases h4 : f.kind = 4
  · have E := Lib.hid (encFeat_light h4)
    have d4 : (f.kind == 4) = true := by simp [h4]
    clear h4 ND HU
    have O2 := Lib.hid (O1.out.keep ((Below.refl w1.heap.size w1).alloc (Nat.le_refl _) (.cells #[.int .i64 f.x, .int .i64 f.y, .int .i64 f.secs.length] 3)))
    go_wp2_with (at_builtin; refine wpList_app rfl _ _ rfl (w.heap.size + 1) _ [f.id, f.kind, f.sym] [f.x, f.y, (f.secs.length : Int)] rfl O2.out _ 3 _ rfl rfl (lit_ints [f.x, f.y, (f.secs.length : Int)] rfl rfl rfl (by unfold maxLen; simp)) (by simp) (by simp; omega) ?_; intro ad3 c3 w3 hown3 hb3)
    have hW3 : Below (w.heap.size + 1) W w3 := (hW1.trans ((Below.refl (w.heap.size + 1) w1).alloc (by omega) _)).trans hb3
    have O3 : Hid (OwnI (w.heap.size + 1) w3 (.slice ad3 6 c3) ([f.id, f.kind, f.sym, f.x, f.y, (f.secs.length : Int)] ++ (f.secs.take 0).flatMap encSec)) := Lib.hid hown3
    clear hown3 hb3 q1 b1 O1 O2 hW1 hB1
    go_wp2_with fail
    go_loopw [3, 5] (fun t i wr => ∃ (k m : Nat) (ad : Option Addr) (c : Nat), k ≤ f.secs.length ∧ t = .slice ad m c ∧ i = .int .i64 k ∧ Below (w.heap.size + 1) W wr ∧ OwnI (w.heap.size + 1) wr (.slice ad m c) ([f.id, f.kind, f.sym, f.x, f.y, (f.secs.length : Int)] ++ (f.secs.take k).flatMap encSec)) (fun _ i _ => f.secs.length - (intOf i).toNat)
    case atStart => exact ⟨0, 6, ad3, c3, by omega, rfl, rfl, hW3, O3.out⟩
    case round =>
      obtain ⟨k, m, ad, c, hk, rfl, rfl, hb, hown⟩ := hrel
      have OW := Lib.hid hown
      clear hown O3 hW3
      have hsz := hb.size
      have q1 := cell_block (BX.out wr hb)
      obtain ⟨LL, hLL⟩ : ∃ LL, [f.id, f.kind, f.sym, f.x, f.y, (f.secs.length : Int)] ++ (f.secs.take k).flatMap encSec = LL := ⟨_, rfl⟩
      rw [hLL] at OW
      have hm : m = LL.length := by
        obtain ⟨ad', c', e'⟩ := OW.out.form
        cases e'
        rfl
      have hml : LL.length ≤ 100 := by
        have := flat_takes encSec 6 f.secs k (fun x _ => by simp [encSec])
        rw [← hLL]
        simp only [List.length_append, List.length_cons, List.length_nil]
        omega
      have HL := Lib.hid hLL
      clear hLL
      subst hm
      rcases Nat.lt_or_ge k f.secs.length with hlt | hge
      rotate_left
      · have E2 : Hid (LL = encFeat f) := Lib.hid (by rw [← HL.out, E.out, show k = f.secs.length by omega, List.take_length]; rfl)
        have dk : ¬ k < f.secs.length := by omega
        go_wp2_with fail
        go_returns
        obtain rfl := E2.out
        exact ⟨ad, c, rfl, OW.out.ints (by omega), hB.trans (hb.mono (by omega))⟩
      obtain ⟨g, o, e0, hc⟩ := (HS.out.later (hB.trans (hb.mono (by omega)))).row hlt
      subst e0
      have c0 := hc 0 (by omega)
      have c1 := hc 1 (by omega)
      have c2 := hc 2 (by omega)
      have c3 := hc 3 (by omega)
      have c4 := hc 4 (by omega)
      have c5 := hc 5 (by omega)
      simp only [Nat.add_zero] at c0
      clear hc
      have ET : Hid ((f.secs.take (k + 1)).flatMap encSec = (f.secs.take k).flatMap encSec ++ [secX f.secs k 0, secX f.secs k 1, secX f.secs k 2, secX f.secs k 3, secX f.secs k 4, secX f.secs k 5]) := Lib.hid (flat_take encSec ⟨0, 0, 0, 0, 0, 0⟩ hlt)
      obtain ⟨x0, hx0⟩ : ∃ x, secX f.secs k 0 = x := ⟨_, rfl⟩
      obtain ⟨x1, hx1⟩ : ∃ x, secX f.secs k 1 = x := ⟨_, rfl⟩
      obtain ⟨x2, hx2⟩ : ∃ x, secX f.secs k 2 = x := ⟨_, rfl⟩
      obtain ⟨x3, hx3⟩ : ∃ x, secX f.secs k 3 = x := ⟨_, rfl⟩
      obtain ⟨x4, hx4⟩ : ∃ x, secX f.secs k 4 = x := ⟨_, rfl⟩
      obtain ⟨x5, hx5⟩ : ∃ x, secX f.secs k 5 = x := ⟨_, rfl⟩
      rw [hx0, hx1, hx2, hx3, hx4, hx5] at ET
      rw [hx0] at c0
      rw [hx1] at c1
      rw [hx2] at c2
      rw [hx3] at c3
      rw [hx4] at c4
      rw [hx5] at c5
      clear hx0 hx1 hx2 hx3 hx4 hx5
      have O2 := Lib.hid (OW.out.keep (((Below.refl wr.heap.size wr).alloc (Nat.le_refl _) (.cells #[.int .i64 x0, .int .i64 x1, .int .i64 x2, .int .i64 x3, .int .i64 x4, .int .i64 x5] 151)).alloc (by simp) (.cells #[.int .i64 x0, .int .i64 x1, .int .i64 x2, .int .i64 x3, .int .i64 x4, .int .i64 x5] 3)))
      go_wp2_with (at_builtin; refine wpList_app rfl _ _ rfl (w.heap.size + 1) _ LL [x0, x1, x2, x3, x4, x5] rfl O2.out _ 6 _ rfl rfl (lit_ints [x0, x1, x2, x3, x4, x5] rfl (by simp) rfl (by unfold maxLen; simp)) (by omega) (by simp; omega) ?_; intro ad5 c6 w5 hown5 hb5)
      have hb6 : Below (w.heap.size + 1) W w5 := (hb.trans (((Below.refl (w.heap.size + 1) wr).alloc (by omega) _).alloc (by simp; omega) _)).trans hb5
      have O5 : Hid (OwnI (w.heap.size + 1) w5 (.slice ad5 (LL.length + 6) c6) ([f.id, f.kind, f.sym, f.x, f.y, (f.secs.length : Int)] ++ (f.secs.take (k + 1)).flatMap encSec)) := Lib.hid (by rw [ET.out, ← List.append_assoc, HL.out]; exact hown5)
      clear hown5 hb5 c0 c1 c2 c3 c4 c5 q1 ET O2
      go_wp2_with fail
      go_roundw
      case rel => exact ⟨k + 1, LL.length + 6, ad5, c6, by omega, rfl, by go_num, hb6, O5.out⟩
      case measure => simp [intOf]; omega
  · have E := Lib.hid (encFeat_area ND h4)
    have d4 : (f.kind == 4) = false := by simpa using h4
    clear h4 ND HU
    have O2 := Lib.hid (O1.out.keep ((Below.refl w1.heap.size w1).alloc (Nat.le_refl _) (.cells #[.int .i64 f.dep, .int .i64 f.area.length] 3)))
    go_wp2_with (at_builtin; refine wpList_app rfl _ _ rfl (w.heap.size + 1) _ [f.id, f.kind, f.sym] [f.dep, (f.area.length : Int)] rfl O2.out _ 2 _ rfl rfl (lit_ints [f.dep, (f.area.length : Int)] rfl rfl rfl (by unfold maxLen; simp)) (by simp) (by simp; omega) ?_; intro ad3 c3 w3 hown3 hb3)
    have hW3 : Below (w.heap.size + 1) W w3 := (hW1.trans ((Below.refl (w.heap.size + 1) w1).alloc (by omega) _)).trans hb3
    have O3 : Hid (OwnI (w.heap.size + 1) w3 (.slice ad3 5 c3) ([f.id, f.kind, f.sym, f.dep, (f.area.length : Int)] ++ (f.area.take 0).flatMap encPt)) := Lib.hid hown3
    clear hown3 hb3 q1 b1 O1 O2 hW1 hB1
    go_wp2_with fail
    go_loopw [3, 7] (fun t i wr => ∃ (k m : Nat) (ad : Option Addr) (c : Nat), k ≤ f.area.length ∧ t = .slice ad m c ∧ i = .int .i64 k ∧ Below (w.heap.size + 1) W wr ∧ OwnI (w.heap.size + 1) wr (.slice ad m c) ([f.id, f.kind, f.sym, f.dep, (f.area.length : Int)] ++ (f.area.take k).flatMap encPt)) (fun _ i _ => f.area.length - (intOf i).toNat)
    case atStart => exact ⟨0, 5, ad3, c3, by omega, rfl, rfl, hW3, O3.out⟩
    case round =>
      obtain ⟨k, m, ad, c, hk, rfl, rfl, hb, hown⟩ := hrel
      have OW := Lib.hid hown
      clear hown O3 hW3
      have hsz := hb.size
      have q1 := cell_block (BX.out wr hb)
      obtain ⟨LL, hLL⟩ : ∃ LL, [f.id, f.kind, f.sym, f.dep, (f.area.length : Int)] ++ (f.area.take k).flatMap encPt = LL := ⟨_, rfl⟩
      rw [hLL] at OW
      have hm : m = LL.length := by
        obtain ⟨ad', c', e'⟩ := OW.out.form
        cases e'
        rfl
      have hml : LL.length ≤ 100 := by
        have := flat_takes encPt 2 f.area k (fun x _ => by simp [encPt])
        rw [← hLL]
        simp only [List.length_append, List.length_cons, List.length_nil]
        omega
      have HL := Lib.hid hLL
      clear hLL
      subst hm
      rcases Nat.lt_or_ge k f.area.length with hlt | hge
      rotate_left
      · have E2 : Hid (LL = encFeat f) := Lib.hid (by rw [← HL.out, E.out, show k = f.area.length by omega, List.take_length]; rfl)
        have dk : ¬ k < f.area.length := by omega
        go_wp2_with fail
        go_returns
        obtain rfl := E2.out
        exact ⟨ad, c, rfl, OW.out.ints (by omega), hB.trans (hb.mono (by omega))⟩
      have PC : Hid (∃ g o, aa = some ⟨g, o, none⟩ ∧ ∀ w', Below (w.heap.size + 1) wr w' → w'.cell? ⟨g, o + k * 2, none⟩ = some (.int .i64 (ptX f.area k 0)) ∧ w'.cell? ⟨g, o + k * 2 + 1, none⟩ = some (.int .i64 (ptX f.area k 1))) := Lib.hid (by
        obtain ⟨g, o, e0, hc⟩ := HA.out.row hlt
        refine ⟨g, o, e0, fun w' hw => ?_⟩
        have hh : Below w.heap.size w w' := (hB.trans (hb.mono (by omega))).trans (hw.mono (by omega))
        exact ⟨cell_later hh (hc 0 (by omega)), cell_later hh (hc 1 (by omega))⟩)
      obtain ⟨g, o, e0, hpc⟩ := PC.out
      subst e0
      have ET : Hid ((f.area.take (k + 1)).flatMap encPt = (f.area.take k).flatMap encPt ++ [ptX f.area k 0, ptX f.area k 1]) := Lib.hid (flat_take encPt (0, 0) hlt)
      obtain ⟨x0, hx0⟩ : ∃ x, ptX f.area k 0 = x := ⟨_, rfl⟩
      obtain ⟨x1, hx1⟩ : ∃ x, ptX f.area k 1 = x := ⟨_, rfl⟩
      rw [hx0, hx1] at ET hpc
      clear hx0 hx1 PC
      have FC : Hid (∀ w', Below (w.heap.size + 1) wr w' → w'.cell? ⟨w.heap.size, 5, none⟩ = some (.slice (some ⟨g, o, none⟩) f.area.length ca) ∧ w'.cell? ⟨g, o + k * 2, none⟩ = some (.int .i64 x0) ∧ w'.cell? ⟨g, o + k * 2 + 1, none⟩ = some (.int .i64 x1)) := Lib.hid fun w' hw => ⟨cell_block (BX.out w' (hb.trans hw)) 5, (hpc w' hw).1, (hpc w' hw).2⟩
      clear hpc
      go_wp2_with fail
      refine wp_region_planS (Below (w.heap.size + 1) wr) (.take 0 (.take 0 (.take 0 (.take 0 (.take 0 (.take 0 (.take 0 (.take 0 (.take 0 (.take 0 (.take 0 (.take 0 (.take 0 (.only 0 (.only 0 (.take 0 .done)))))))))))))))) (by kernel_rfl) (by kernel_rfl) ((Below.refl _ _).drew) (fun hP => ?_)
      repeat' (first
        | (refine wsPlan_two ?_ ?_)
        | (refine wsPlan_three ?_ ?_ ?_)
        | (refine wsPlan_take rfl (fun K hK => ?_); replace hK := Lib.hid hK; go_simp; first | (refine hK.out _ ?_; clear hK K) | (apply Exists.intro; refine ⟨fun w' hw => ?_, hK.out _ ?_⟩; (first | with_reducible exact rfl | (obtain ⟨fc5, fp0, fp1⟩ := FC.out w' hw; go_simp; exact rfl)); clear hK K))
        | (refine wsPlan_only rfl (fun K hK => ?_); replace hK := Lib.hid hK; (first | (refine step_app (by rfl) _ _ (by rfl) (w.heap.size + 1) _ LL [x0, x1] (by rfl) (OW.out.keep (((Below.refl wr.heap.size wr).drew).alloc (Nat.le_refl _) _)) _ 2 _ (by rfl) rfl (lit_ints (w := wr.drew) [x0, x1] (by rfl) (by rfl) rfl (by unfold maxLen; simp)) (by omega) (by have := hP.size; omega) ?_; intro ad5 c6 w5 hown5 hb5) | (go_simp; first | skip)); refine hK.out _ _ (by first | assumption | exact hP.trans hb5 | exact hP.alloc (by have := hP.size; omega) _ | exact hP) (fun hP => ?_); clear hK K))
      all_goals refine wsPlan_done ?_
      have O5 : Hid (OwnI (w.heap.size + 1) w5 (.slice ad5 (LL.length + 2) c6) ([f.id, f.kind, f.sym, f.dep, (f.area.length : Int)] ++ (f.area.take (k + 1)).flatMap encPt)) := Lib.hid (by rw [ET.out, ← List.append_assoc, HL.out]; exact hown5)
      have hb6 : Below (w.heap.size + 1) W w5 := hb.trans hP
      clear hown5 hb5 FC q1 ET
      go_wp2_with fail
      go_roundw
      case rel => exact ⟨k + 1, LL.length + 2, ad5, c6, by omega, rfl, by go_num, hb6, O5.out⟩
      case measure => simp [intOf]; omega
end Go.Proofs.YtdmegkkifiahdaaGreat
/- The walks of the reference: the integers of a sheet, and their digest. -/
namespace Go.Proofs.YtdmegkkifiahdaaGreat
open Go.RowKit
attribute [local go_sem] bqOp bqAll bqUpon sqOp sqAll sqUpon ssOp ssAll
attribute [local irreducible] wpQuiet wpBQ wpPlan wsPlan
set_option linter.unusedVariables false
theorem flat_self : ∀ l : List Int, l.flatMap encInt = l
  | [] => rfl
  | x :: l => by rw [List.flatMap_cons, flat_self l]; rfl
theorem encS_list (s : Sht) : encS s = (([s.chart, s.scale, s.edition, s.dat.a, s.dat.b, s.dat.c, s.dat.d, s.dat.e, s.dat.f, s.dat.r, s.cap, (s.don.length : Int)] ++ s.don) ++ [(s.feats.length : Int)]) ++ s.feats.flatMap encFeat := by
  unfold encS encHead putL
  rw [flat_self]
  simp
set_option maxHeartbeats 8000000 in
set_option maxRecDepth 20000 in
theorem q14ints_any (s : Sht) (ad af : Option Addr) (cd cf : Nat) (w : World) (hd : IntsAt w (.slice ad s.don.length cd) s.don) (hf : FeatsAt w (.slice af s.feats.length cf) s.feats) (h200 : s.don.length ≤ 200) (h300 : s.feats.length ≤ 300) (hw : FewEls s.feats) :
    Calls Tryz.prog 112 #[shtV s (.slice ad s.don.length cd) (.slice af s.feats.length cf)] w (GivesL (encS s) w) := by
  have HD := Lib.hid hd
  have HF := Lib.hid hf
  have FE := Lib.hid hw
  clear hd hf hw
  have BB : Below w.heap.size w (((w.alloc (.cells #[.int .i64 s.chart, .int .i64 s.scale, .int .i64 s.edition, .int .i64 s.dat.a, .int .i64 s.dat.b, .int .i64 s.dat.c, .int .i64 s.dat.d, .int .i64 s.dat.e, .int .i64 s.dat.f, .int .i64 s.dat.r, .int .i64 s.cap, .slice ad s.don.length cd, .slice af s.feats.length cf] 54)).alloc (.cells #[.int .i64 s.dat.a, .int .i64 s.dat.b, .int .i64 s.dat.c, .int .i64 s.dat.d, .int .i64 s.dat.e, .int .i64 s.dat.f, .int .i64 s.dat.r] 52)).alloc (.cells #[.int .i64 s.chart, .int .i64 s.scale, .int .i64 s.edition, .int .i64 s.dat.a, .int .i64 s.dat.b, .int .i64 s.dat.c, .int .i64 s.dat.d, .int .i64 s.dat.e, .int .i64 s.dat.f, .int .i64 s.dat.r, .int .i64 s.cap, .int .i64 s.don.length] 3)) := (((Below.refl _ w).alloc (Nat.le_refl _) _).alloc (by simp) _).alloc (by simp; omega) _
  have P0 : Hid ((((w.alloc (.cells #[.int .i64 s.chart, .int .i64 s.scale, .int .i64 s.edition, .int .i64 s.dat.a, .int .i64 s.dat.b, .int .i64 s.dat.c, .int .i64 s.dat.d, .int .i64 s.dat.e, .int .i64 s.dat.f, .int .i64 s.dat.r, .int .i64 s.cap, .slice ad s.don.length cd, .slice af s.feats.length cf] 54)).alloc (.cells #[.int .i64 s.dat.a, .int .i64 s.dat.b, .int .i64 s.dat.c, .int .i64 s.dat.d, .int .i64 s.dat.e, .int .i64 s.dat.f, .int .i64 s.dat.r] 52)).alloc (.cells #[.int .i64 s.chart, .int .i64 s.scale, .int .i64 s.edition, .int .i64 s.dat.a, .int .i64 s.dat.b, .int .i64 s.dat.c, .int .i64 s.dat.d, .int .i64 s.dat.e, .int .i64 s.dat.f, .int .i64 s.dat.r, .int .i64 s.cap, .int .i64 s.don.length] 3)).heap[w.heap.size]? = some (.cells #[.int .i64 s.chart, .int .i64 s.scale, .int .i64 s.edition, .int .i64 s.dat.a, .int .i64 s.dat.b, .int .i64 s.dat.c, .int .i64 s.dat.d, .int .i64 s.dat.e, .int .i64 s.dat.f, .int .i64 s.dat.r, .int .i64 s.cap, .slice ad s.don.length cd, .slice af s.feats.length cf] 54)) := Lib.hid (block_alloc (block_alloc (block_new w _)))
  have OL := Lib.hid (OwnI.lit (base := w.heap.size + 2) (b := w.heap.size + 2) (n := 12) (w := ((w.alloc (.cells #[.int .i64 s.chart, .int .i64 s.scale, .int .i64 s.edition, .int .i64 s.dat.a, .int .i64 s.dat.b, .int .i64 s.dat.c, .int .i64 s.dat.d, .int .i64 s.dat.e, .int .i64 s.dat.f, .int .i64 s.dat.r, .int .i64 s.cap, .slice ad s.don.length cd, .slice af s.feats.length cf] 54)).alloc (.cells #[.int .i64 s.dat.a, .int .i64 s.dat.b, .int .i64 s.dat.c, .int .i64 s.dat.d, .int .i64 s.dat.e, .int .i64 s.dat.f, .int .i64 s.dat.r] 52))) (W := (((w.alloc (.cells #[.int .i64 s.chart, .int .i64 s.scale, .int .i64 s.edition, .int .i64 s.dat.a, .int .i64 s.dat.b, .int .i64 s.dat.c, .int .i64 s.dat.d, .int .i64 s.dat.e, .int .i64 s.dat.f, .int .i64 s.dat.r, .int .i64 s.cap, .slice ad s.don.length cd, .slice af s.feats.length cf] 54)).alloc (.cells #[.int .i64 s.dat.a, .int .i64 s.dat.b, .int .i64 s.dat.c, .int .i64 s.dat.d, .int .i64 s.dat.e, .int .i64 s.dat.f, .int .i64 s.dat.r] 52)).alloc (.cells #[.int .i64 s.chart, .int .i64 s.scale, .int .i64 s.edition, .int .i64 s.dat.a, .int .i64 s.dat.b, .int .i64 s.dat.c, .int .i64 s.dat.d, .int .i64 s.dat.e, .int .i64 s.dat.f, .int .i64 s.dat.r, .int .i64 s.cap, .int .i64 s.don.length] 3))) [s.chart, s.scale, s.edition, s.dat.a, s.dat.b, s.dat.c, s.dat.d, s.dat.e, s.dat.f, s.dat.r, s.cap, (s.don.length : Int)] rfl (by simp) rfl (Nat.le_refl _) (by unfold maxLen; simp))
  have HD0 := Lib.hid (intsL HD.out BB)
  go_enter Tryz.func112, Tryz.ntmps112
  go_wp2_with (at_builtin; first | (refine wpList_app rfl _ _ rfl (w.heap.size + 2) _ [s.chart, s.scale, s.edition, s.dat.a, s.dat.b, s.dat.c, s.dat.d, s.dat.e, s.dat.f, s.dat.r, s.cap, (s.don.length : Int)] s.don rfl OL.out _ s.don.length _ rfl rfl HD0.out (by simp; omega) (by simp) ?_; intro ad3 c3 w3 hown3 hb3; have q3 := cell_block ((hb3.block w.heap.size (by omega)).trans P0.out)) | (refine wpList_app rfl _ _ rfl (w.heap.size + 2) _ ([s.chart, s.scale, s.edition, s.dat.a, s.dat.b, s.dat.c, s.dat.d, s.dat.e, s.dat.f, s.dat.r, s.cap, (s.don.length : Int)] ++ s.don) [(s.feats.length : Int)] rfl (hown3.keep ((Below.refl w3.heap.size w3).alloc (Nat.le_refl _) (.cells #[.int .i64 s.feats.length] 3))) _ 1 _ rfl rfl (lit_ints [(s.feats.length : Int)] rfl rfl rfl (by unfold maxLen; simp)) (by simp; omega) (by have := hb3.size; simp at this ⊢; omega) ?_; intro ad4 c4 w4 hown4 hb4))
  have P3 := Lib.hid ((hb3.block w.heap.size (by omega)).trans P0.out)
  have hB3 : Below w.heap.size w w3 := BB.trans (hb3.mono (by omega))
  have hs3 : w.heap.size + 2 ≤ w3.heap.size := by have := hb3.size; simp at this; omega
  have hB4 : Below w.heap.size w w4 := (hB3.trans ((Below.refl w.heap.size w3).alloc (by omega) _)).trans (hb4.mono (by omega))
  have P4 := Lib.hid ((hb4.block w.heap.size (by omega)).trans (block_alloc P3.out))
  have hs4 : w.heap.size + 2 ≤ w4.heap.size := by have := hb4.size; simp at this; omega
  obtain ⟨L4, hL4⟩ : ∃ L, ([s.chart, s.scale, s.edition, s.dat.a, s.dat.b, s.dat.c, s.dat.d, s.dat.e, s.dat.f, s.dat.r, s.cap, (s.don.length : Int)] ++ s.don) ++ [(s.feats.length : Int)] = L := ⟨_, rfl⟩
  have hl4 : L4.length ≤ 213 := by
    rw [← hL4]
    simp
    omega
  have hl5 : L4.length = ([s.chart, s.scale, s.edition, s.dat.a, s.dat.b, s.dat.c, s.dat.d, s.dat.e, s.dat.f, s.dat.r, s.cap, (s.don.length : Int)] ++ s.don).length + 1 := by rw [← hL4]; simp
  have hown5 : OwnI (w.heap.size + 2) w4 (.slice ad4 L4.length c4) (L4 ++ (s.feats.take 0).flatMap encFeat) := by
    rw [hl5, ← hL4]
    simpa using hown4
  have O4 := Lib.hid hown5
  have HL5 := Lib.hid hl5
  have E4 : Hid (L4 ++ s.feats.flatMap encFeat = encS s) := Lib.hid (by rw [encS_list, ← hL4])
  clear hown3 hown4 hown5 hb3 hb4 hL4 P3 q3 hB3 hs3 BB P0 OL HD0 hl5
  go_wp2_with fail
  go_loopw [4, 5] (fun t i wr => ∃ (k m : Nat) (a : Option Addr) (c : Nat), k ≤ s.feats.length ∧ t = .slice a m c ∧ i = .int .i64 k ∧ Below w.heap.size w wr ∧ w.heap.size + 2 ≤ wr.heap.size ∧ wr.heap[w.heap.size]? = some (.cells #[.int .i64 s.chart, .int .i64 s.scale, .int .i64 s.edition, .int .i64 s.dat.a, .int .i64 s.dat.b, .int .i64 s.dat.c, .int .i64 s.dat.d, .int .i64 s.dat.e, .int .i64 s.dat.f, .int .i64 s.dat.r, .int .i64 s.cap, .slice ad s.don.length cd, .slice af s.feats.length cf] 54) ∧ OwnI (w.heap.size + 2) wr (.slice a m c) (L4 ++ (s.feats.take k).flatMap encFeat)) (fun _ i _ => s.feats.length - (intOf i).toNat)
  case atStart => exact ⟨0, L4.length, ad4, c4, by omega, by rw [HL5.out]; simp, rfl, hB4, hs4, P4.out, O4.out⟩
  case round =>
    obtain ⟨k, m, a, c, hk, rfl, rfl, hb, hsz, hP, hown⟩ := hrel
    have OW := Lib.hid hown
    have PB := Lib.hid hP
    clear hown hP O4 P4 hB4 hs4
    obtain ⟨LL, hLL⟩ : ∃ LL, L4 ++ (s.feats.take k).flatMap encFeat = LL := ⟨_, rfl⟩
    rw [hLL] at OW
    have hm : m = LL.length := by
      obtain ⟨ad', c', e'⟩ := OW.out.form
      cases e'
      rfl
    have hml : LL.length ≤ 30000 := by
      have := flat_takes encFeat 80 s.feats k (fun x hx => encFeat_len (FE.out x hx))
      rw [← hLL, List.length_append]
      omega
    have HL := Lib.hid hLL
    clear hLL
    subst hm
    have q1 := cell_block PB.out
    rcases Nat.lt_or_ge k s.feats.length with hlt | hge
    rotate_left
    · have E2 : Hid (LL = encS s) := Lib.hid (by rw [← HL.out, ← E4.out, show k = s.feats.length by omega, List.take_length])
      have dk2 : ¬ k < s.feats.length := by omega
      go_wp2_with fail
      go_returns
      obtain rfl := E2.out
      exact ⟨a, c, rfl, OW.out.ints (by omega), hb⟩
    obtain ⟨g, o, va, vs, e0, fc⟩ := (HF.out.later hb).row hlt
    subst e0
    have ET : Hid ((s.feats.take (k + 1)).flatMap encFeat = (s.feats.take k).flatMap encFeat ++ encFeat (s.feats.getD k noFeat)) := Lib.hid (flat_take encFeat noFeat hlt)
    have hfk := FE.out (s.feats.getD k noFeat) (getD_mem hlt)
    obtain ⟨f, hf⟩ : ∃ f, s.feats.getD k noFeat = f := ⟨_, rfl⟩
    rw [hf] at fc ET hfk
    clear hf
    obtain ⟨c0, c1, c2, c3, c4', c5, c6, c7, c8, PA, SA⟩ := fc
    obtain ⟨aa, ca, rfl, _, _, _⟩ := Lists.form PA
    obtain ⟨ab, cb, rfl, _, _, _⟩ := Lists.form SA
    have PA' := Lib.hid PA
    have SA' := Lib.hid SA
    clear PA SA
    go_wp2_with fail
    (with_reducible refine (q14feature_any f _ _ _ _ _ PA'.out SA'.out hfk.1 hfk.2).mono ?_)
    rintro e w5 ⟨a5, c9, rfl, hint, hb5⟩
    have hel := encFeat_len hfk
    obtain ⟨E, hE⟩ : ∃ E, encFeat f = E := ⟨_, rfl⟩
    rw [hE] at hint ET hel ⊢
    have HI := Lib.hid hint
    have OW5 := Lib.hid (OW.out.keep hb5)
    have PB5 := Lib.hid (block_later hb5 PB.out)
    have hs5 := hb5.size
    have hB5 := below_step hb hb5
    clear hint hE c0 c1 c2 c3 c4' c5 c6 c7 c8 q1 OW PB hb5 hb
    go_wp2_with (at_builtin; refine wpList_app rfl _ _ rfl (w.heap.size + 2) _ LL E rfl OW5.out _ E.length _ rfl rfl HI.out (by omega) (by omega) ?_; intro a6 c6 w6 hown6 hb6)
    have O6 : Hid (OwnI (w.heap.size + 2) w6 (.slice a6 (LL.length + E.length) c6) (L4 ++ (s.feats.take (k + 1)).flatMap encFeat)) := Lib.hid (by rw [ET.out, ← List.append_assoc, HL.out]; exact hown6)
    have hB6 : Below w.heap.size w w6 := hB5.trans (hb6.mono (by omega))
    have PB6 := Lib.hid ((hb6.block w.heap.size (by omega)).trans PB5.out)
    have hs6 : w.heap.size + 2 ≤ w6.heap.size := by have := hb6.size; omega
    clear hown6 hb6
    go_wp2_with fail
    go_roundw
    case rel => exact ⟨k + 1, LL.length + E.length, a6, c6, by omega, rfl, by go_num, hB6, hs6, PB6.out, O6.out⟩
    case measure => simp [intOf]; omega
def Ints14 (s : Sht) (o : Bool) (w : World) (e : Ending) (w' : World) : Prop := ∃ a n c er, e = .returned (.tuple #[.slice a n c, .int .i64 er]) ∧ (o = true → er = 0 ∧ n = (encS s).length ∧ IntsAt w' (.slice a n c) (encS s)) ∧ (o = false → er = 1 ∧ n = 0) ∧ Below w.heap.size w w'
theorem ret_ui {a b c : Int} (h : a = c) : Ending.returned (.tuple #[.int .u64 a, .int .i64 b]) = Ending.returned (.tuple #[.int .u64 c, .int .i64 b]) := by rw [h]
theorem q14Ints_any (s : Sht) (vd vf : Value) (w : World) (hd : IntsAt w vd s.don) (hf : FeatsAt w vf s.feats) {o : Bool} (ho : decide (ShtOk s) = o) :
    Calls Tryz.prog 36 #[shtV s vd vf] w (Ints14 s o w) := by
  obtain ⟨ad, cd, rfl, h1, _, _⟩ := Lists.form hd
  obtain ⟨af, cf, rfl, g1, _, _⟩ := hf.form
  have HO := Lib.hid ho
  have HD := Lib.hid hd
  have HF := Lib.hid hf
  clear ho hd hf h1 g1
  go_enter Tryz.func36, Tryz.ntmps36
  go_wp2_with fail
  refine calls_named fun W hW => ?_
  obtain ⟨p1, hB⟩ := box1 hW
  clear hW
  (with_reducible refine (q14Valid_any s _ _ _ (intsL HD.out hB) (HF.out.later hB) HO.out).mono ?_)
  rintro e w1 ⟨rfl, hb1⟩
  have hB1 := below_step hB hb1
  have q1 := cell_block (block_later hb1 p1)
  clear p1 hb1 hB
  cases o
  · go_wp2_with fail
    go_returns
    exact ⟨none, 0, 0, 1, rfl, fun h => (nomatch h), fun _ => ⟨rfl, rfl⟩, hB1⟩
  have OK := of_decide_eq_true HO.out
  have h2 := OK.2.1
  have h3 := OK.2.2.2.2.2.2.2
  have h4 := Lib.hid h3
  have h5 := h3.1
  clear OK h3
  go_wp2_with fail
  clear q1
  (with_reducible refine (q14ints_any s _ _ _ _ _ (intsL HD.out hB1) (HF.out.later hB1) h2 h5 (fewEls_of h4.out)).mono ?_)
  rintro e w2 ⟨a, c, rfl, hint, hb2⟩
  have HI := Lib.hid hint
  obtain ⟨E, hE⟩ : ∃ E, encS s = E := ⟨_, rfl⟩
  have HE := Lib.hid hE
  rw [hE] at HI ⊢
  clear hint hE
  go_wp2_with fail
  go_returns
  exact ⟨a, E.length, c, 0, rfl, fun _ => ⟨rfl, by rw [HE.out], by rw [HE.out]; exact HI.out⟩, fun h => (nomatch h), below_step hB1 hb2⟩
theorem q08Digest_any (l : List Int) (ad : Option Addr) (c : Nat) (w : World) (h : IntsAt w (.slice ad l.length c) l) (hs : l.length ≤ 1000000) :
    Calls Tryz.prog 125 #[.slice ad l.length c] w fun e w' => e = .returned (.int .u64 (digN l : Int)) ∧ w' = w := by
  obtain ⟨n, hn⟩ : ∃ n, l.length = n := ⟨_, rfl⟩
  have H2 : Hid (Rows 1 w (.slice ad n c) n (fun i _ => l.getD i 0)) := Lib.hid (by rw [← hn]; exact h.rows)
  rw [hn] at hs ⊢
  have HN := Lib.hid hn
  clear h hn
  go_enter Tryz.func125, Tryz.ntmps125
  go_wp2
  go_loop [3, 4] (fun t i => ∃ (k : Nat) (hv : Nat), k ≤ n ∧ i = .int .i64 k ∧ hv = (l.take k).foldl stepD ((11400714819323198485 + n) % 18446744073709551616) ∧ hv < 18446744073709551616 ∧ t = .int .u64 (hv : Int)) (fun _ i => n - (intOf i).toNat)
  case atStart => exact ⟨0, 11400714819323198485 + n, by omega, rfl, by simp; omega, by omega, by congr 1⟩
  case round =>
    obtain ⟨k, hv, hk, rfl, hhv, hlt64, rfl⟩ := hrel
    have HHV := Lib.hid hhv
    clear hhv
    rcases Nat.lt_or_ge k n with hlt | hge
    · obtain ⟨g, o, rfl, hc⟩ := H2.out.row hlt
      have c0 := hc 0 (by omega)
      simp only [Nat.add_zero, Nat.mul_one] at c0
      clear hc
      obtain ⟨x, hx⟩ : ∃ x, l.getD k 0 = x := ⟨_, rfl⟩
      rw [hx] at c0
      have X := Lib.hid hx
      clear hx
      go_wp2
      go_round
      case rel => exact ⟨k + 1, stepD hv x, by omega, by go_num, by rw [fold_take stepD 0 _ (by have := HN.out; omega), ← HHV.out, X.out], stepD_lt _ _, by rw [dig_step x hlt64]⟩
      case measure => simp [intOf]; omega
    · obtain rfl : k = n := by omega
      have E := Lib.hid (show hv = digN l by rw [HHV.out]; unfold digN; rw [← HN.out, List.take_length])
      go_wp2
      go_returns
      exact ⟨by rw [← E.out]; rfl, rfl⟩
def dig14 (s : Sht) : Bool → Int × Int
  | true => ((digN (encS s) : Int), 0)
  | false => (0, 1)
theorem q14Digest_any (s : Sht) (vd vf : Value) (w : World) (hd : IntsAt w vd s.don) (hf : FeatsAt w vf s.feats) {o : Bool} (ho : decide (ShtOk s) = o) {v er : Int} (hv : dig14 s o = (v, er)) :
    Calls Tryz.prog 40 #[shtV s vd vf] w fun z w' => z = .returned (.tuple #[.int .u64 v, .int .i64 er]) ∧ Below w.heap.size w w' := by
  obtain ⟨ad, cd, rfl, h1, _, _⟩ := Lists.form hd
  obtain ⟨af, cf, rfl, g1, _, _⟩ := hf.form
  have HO := Lib.hid ho
  have HD := Lib.hid hd
  have HF := Lib.hid hf
  clear ho hd hf h1 g1
  go_enter Tryz.func40, Tryz.ntmps40
  go_wp2_with fail
  refine calls_named fun W hW => ?_
  obtain ⟨p1, hB⟩ := box1 hW
  clear hW
  (with_reducible refine (q14Ints_any s _ _ _ (intsL HD.out hB) (HF.out.later hB) HO.out).mono ?_)
  rintro e w1 ⟨a, n, c, er1, rfl, k1, k2, hb1⟩
  have hB1 := below_step hB hb1
  cases o
  · obtain ⟨rfl, rfl⟩ := k2 rfl
    cases hv
    clear k1 k2
    go_wp2_with fail
    go_returns
    exact ⟨rfl, hB1⟩
  obtain ⟨rfl, rfl, hint⟩ := k1 rfl
  cases hv
  have OK := of_decide_eq_true HO.out
  have hlen := encS_len OK.2.1 OK.2.2.2.2.2.2.2.1 (fewEls_of OK.2.2.2.2.2.2.2)
  have HI := Lib.hid hint
  obtain ⟨E, hE⟩ : ∃ E, encS s = E := ⟨_, rfl⟩
  have HE := Lib.hid hE
  rw [hE] at HI hlen ⊢
  clear k1 k2 hint hE OK
  go_wp2_with fail
  (with_reducible refine (q08Digest_any E _ _ _ HI.out (by omega)).mono ?_)
  rintro e w2 ⟨rfl, rfl⟩
  go_wp2_with fail
  go_returns
  exact ⟨ret_ui (by rw [HE.out]), hB1⟩
end Go.Proofs.YtdmegkkifiahdaaGreat
/- The walks of slices.Clone, of sheet.Find and of the reference's Find. -/
namespace Go.Proofs.YtdmegkkifiahdaaGreat
open Go.RowKit
attribute [local go_sem] bqOp bqAll bqUpon sqOp sqAll sqUpon ssOp ssAll
attribute [local irreducible] wpQuiet wpBQ wpPlan wsPlan
set_option linter.unusedVariables false
def ClonesP (l : List (Int × Int)) (w : World) (e : Ending) (w' : World) : Prop := ∃ ad c, e = .returned (.slice ad l.length c) ∧ PtsAt w' (.slice ad l.length c) l ∧ (∀ g o, ad = some ⟨g, o, none⟩ → w.heap.size ≤ g) ∧ Below w.heap.size w w'
def ClonesS (l : List Sec) (w : World) (e : Ending) (w' : World) : Prop := ∃ ad c, e = .returned (.slice ad l.length c) ∧ SecsAt w' (.slice ad l.length c) l ∧ (∀ g o, ad = some ⟨g, o, none⟩ → w.heap.size ≤ g) ∧ Below w.heap.size w w'
theorem info_ptc : (Tryz.prog.info? 28).map (fun i => (i.zero, i.size, i.bytes)) = some (some (.agg #[.int .i64 0, .int .i64 0]), 2, 16) := by kernel_rfl
theorem info_secc : (Tryz.prog.info? 151).map (fun i => (i.zero, i.size, i.bytes)) = some (some (.agg #[.int .i64 0, .int .i64 0, .int .i64 0, .int .i64 0, .int .i64 0, .int .i64 0]), 6, 48) := by kernel_rfl
set_option maxRecDepth 20000 in
set_option maxHeartbeats 1000000 in
theorem clPts_any (l : List (Int × Int)) (v : Value) (w : World) (h : PtsAt w v l) (hl : l.length ≤ 1000) : Calls Tryz.prog 127 #[v] w (ClonesP l w) := by
  obtain ⟨ad, c, rfl, h1, h2, h3⟩ := Lists.form h
  have H1 := Lib.hid h1
  clear h h1
  cases ad with
  | none =>
    have h0 : l = [] := by
      cases l with
      | nil => rfl
      | cons x l =>
        obtain ⟨g, o, e, _⟩ := H1.out.rows.row (show 0 < (x :: l).length by simp)
        cases e
    subst h0
    have hq := Lib.run_eql_slice_nil (P := Tryz.prog) w 29 28 none ([] : List (Int × Int)).length c 0 0 Tryz.underlying29
    simp only [List.length_nil] at hq
    go_enter Tryz.func127, Tryz.ntmps127
    go_wp2_with fail
    go_returns
    exact ⟨none, 0, rfl, ⟨⟨none, 0, rfl, by simp, fun i hi => absurd hi (Nat.not_lt_zero i)⟩, fun a n c e => by cases e; exact Nat.le_refl _⟩, fun g o e => (nomatch e), Below.refl _ _⟩
  | some a =>
    obtain ⟨i0, hi0, hz0, hz1, hz2⟩ := info_parts info_ptc
    have OL : Hid ((w.alloc (.cells #[] 28)).ownsRow w.heap.size 28 2 (.slice (some ⟨w.heap.size, 0, none⟩) 0 0) 0 []) := Lib.hid (World.ownsRow_lit (base := w.heap.size) (e := 28) (size := 2) w #[] 0 (Nat.le_refl _) (by unfold maxLen; omega) (by simp))
    have BB : Below w.heap.size w (w.alloc (.cells #[] 28)) := (Below.refl _ _).alloc (Nat.le_refl _) _
    have H2 := Lib.hid (H1.out.rows.later BB)
    have hq := Lib.run_eql_slice_nil (P := Tryz.prog) w 29 28 (some a) l.length c 0 0 Tryz.underlying29
    go_enter Tryz.func127, Tryz.ntmps127
    go_wp2_with (at_builtin; refine wpList_append_rows (P := Tryz.prog) _ rfl _ _ 29 rfl w.heap.size 28 i0 (.agg #[.int .i64 0, .int .i64 0]) 2 16 Tryz.underlying29 hi0 hz0 hz1 hz2 rfl (by decide) (.slice (some ⟨w.heap.size, 0, none⟩) 0 0) 0 [] rfl OL.out (some a) l.length c (ptX l) rfl H2.out (by unfold maxLen; omega) (by omega) (by simp) ?_; intro ad' c' w' h5 h6)
    have B6 : Below w.heap.size w w' := BB.trans ((Below.refl w.heap.size _).grown h6 (by simp) (own_block OL.out))
    have HP : Hid (PtsAt w' (.slice ad' l.length c') l) := Lib.hid (by
      rw [Nat.zero_add, List.nil_append] at h5
      exact ⟨owns_rows h2 h5 fun i hi j hj => rowCells_get hi hj, own_cap h5⟩)
    have HG : Hid (∀ g o, ad' = some ⟨g, o, none⟩ → w.heap.size ≤ g) := Lib.hid (fun g o e => own_block h5 g (by subst e; simp [Value.ownBlock]))
    clear h5 h6
    go_wp2_with fail
    go_returns
    exact ⟨ad', c', by simp, HP.out, HG.out, B6⟩
set_option maxRecDepth 20000 in
set_option maxHeartbeats 1000000 in
theorem clSecs_any (l : List Sec) (v : Value) (w : World) (h : SecsAt w v l) (hl : l.length ≤ 1000) : Calls Tryz.prog 128 #[v] w (ClonesS l w) := by
  obtain ⟨ad, c, rfl, h1, h2, h3⟩ := Lists.form h
  have H1 := Lib.hid h1
  clear h h1
  cases ad with
  | none =>
    have h0 : l = [] := by
      cases l with
      | nil => rfl
      | cons x l =>
        obtain ⟨g, o, e, _⟩ := H1.out.rows.row (show 0 < (x :: l).length by simp)
        cases e
    subst h0
    have hq := Lib.run_eql_slice_nil (P := Tryz.prog) w 30 151 none ([] : List Sec).length c 0 0 Tryz.underlying30
    simp only [List.length_nil] at hq
    go_enter Tryz.func128, Tryz.ntmps128
    go_wp2_with fail
    go_returns
    exact ⟨none, 0, rfl, ⟨⟨none, 0, rfl, by simp, fun i hi => absurd hi (Nat.not_lt_zero i)⟩, fun a n c e => by cases e; exact Nat.le_refl _⟩, fun g o e => (nomatch e), Below.refl _ _⟩
  | some a =>
    obtain ⟨i0, hi0, hz0, hz1, hz2⟩ := info_parts info_secc
    have OL : Hid ((w.alloc (.cells #[] 151)).ownsRow w.heap.size 151 6 (.slice (some ⟨w.heap.size, 0, none⟩) 0 0) 0 []) := Lib.hid (World.ownsRow_lit (base := w.heap.size) (e := 151) (size := 6) w #[] 0 (Nat.le_refl _) (by unfold maxLen; omega) (by simp))
    have BB : Below w.heap.size w (w.alloc (.cells #[] 151)) := (Below.refl _ _).alloc (Nat.le_refl _) _
    have H2 := Lib.hid (H1.out.rows.later BB)
    have hq := Lib.run_eql_slice_nil (P := Tryz.prog) w 30 151 (some a) l.length c 0 0 Tryz.underlying30
    go_enter Tryz.func128, Tryz.ntmps128
    go_wp2_with (at_builtin; refine wpList_append_rows (P := Tryz.prog) _ rfl _ _ 30 rfl w.heap.size 151 i0 (.agg #[.int .i64 0, .int .i64 0, .int .i64 0, .int .i64 0, .int .i64 0, .int .i64 0]) 6 48 Tryz.underlying30 hi0 hz0 hz1 hz2 rfl (by decide) (.slice (some ⟨w.heap.size, 0, none⟩) 0 0) 0 [] rfl OL.out (some a) l.length c (secX l) rfl H2.out (by unfold maxLen; omega) (by omega) (by simp) ?_; intro ad' c' w' h5 h6)
    have B6 : Below w.heap.size w w' := BB.trans ((Below.refl w.heap.size _).grown h6 (by simp) (own_block OL.out))
    have HP : Hid (SecsAt w' (.slice ad' l.length c') l) := Lib.hid (by
      rw [Nat.zero_add, List.nil_append] at h5
      exact ⟨owns_rows h2 h5 fun i hi j hj => rowCells_get hi hj, own_cap h5⟩)
    have HG : Hid (∀ g o, ad' = some ⟨g, o, none⟩ → w.heap.size ≤ g) := Lib.hid (fun g o e => own_block h5 g (by subst e; simp [Value.ownBlock]))
    clear h5 h6
    go_wp2_with fail
    go_returns
    exact ⟨ad', c', by simp, HP.out, HG.out, B6⟩
end Go.Proofs.YtdmegkkifiahdaaGreat
