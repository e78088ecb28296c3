/- What both implementations of chapter 14 answer, in one form: contracts for SheetMatchesReference. -/
import Derived.Test.YtdmegkkifiahdaaGreatShtO
import Derived.Test.YtdmegkkifiahdaaGreatKR
import Derived.Test.YtdmegkkifiahdaaGreatRefW
import Derived.Test.YtdmegkkifiahdaaGreatRefX
import Derived.Test.YtdmegkkifiahdaaGreatRfA
namespace Go.Proofs.YtdmegkkifiahdaaGreat
open Go.RowKit
set_option linter.unusedVariables false
theorem pts_later {w w' : World} {v : Value} {l : List (Int × Int)} (h : PtsAt w v l) (hb : Below w.heap.size w w') : PtsAt w' v l := Lists.later h hb
theorem secs_later {w w' : World} {v : Value} {l : List Sec} (h : SecsAt w v l) (hb : Below w.heap.size w w') : SecsAt w' v l := Lists.later h hb
def intsR (s : Sht) : List Int × Int := if ShtOk s then (encS s, 0) else ([], 1)
def diffR (s t : Sht) : List Int × Int := if ShtOk s ∧ ShtOk t then (mergeD s.feats t.feats, 0) else ([], 1)
def ListE (li : List Int) (er : Int) (w : World) (e : Ending) (w' : World) : Prop := ∃ ad c, e = .returned (.tuple #[.slice ad li.length c, .int .i64 er]) ∧ IntsAt w' (.slice ad li.length c) li ∧ Below w.heap.size w w'
theorem ints_no (a : Option Addr) (c : Nat) (w : World) : IntsAt w (.slice a 0 c) [] := ⟨⟨a, c, rfl, by simp, fun i hi => absurd hi (Nat.not_lt_zero i)⟩, fun a n c e => by cases e; exact Nat.zero_le _⟩
theorem shInts_u (s : Sht) (vd vf : Value) (w : World) (hd : IntsAt w vd s.don) (hf : FeatsAt w vf s.feats) {li : List Int} {er : Int} (hr : intsR s = (li, er)) : Calls Tryz.prog 35 #[shtV s vd vf] w (ListE li er w) := by
  unfold intsR at hr
  by_cases h : ShtOk s
  · rw [if_pos h] at hr
    cases hr
    exact (shInts_yes s vd vf w hd hf h).mono fun e w' ⟨ad, c, h1, h2, h3⟩ => ⟨ad, c, h1, h2, h3⟩
  · rw [if_neg h] at hr
    cases hr
    exact (shInts_no s vd vf w hd hf h).mono fun e w' ⟨h1, h3⟩ => ⟨none, 0, h1, ints_no _ _ _, h3⟩
theorem q14Ints_u (s : Sht) (vd vf : Value) (w : World) (hd : IntsAt w vd s.don) (hf : FeatsAt w vf s.feats) {li : List Int} {er : Int} (hr : intsR s = (li, er)) : Calls Tryz.prog 36 #[shtV s vd vf] w (ListE li er w) := by
  unfold intsR at hr
  by_cases h : ShtOk s
  · rw [if_pos h] at hr
    cases hr
    refine (q14Ints_any s vd vf w hd hf (decide_eq_true h)).mono fun e w' ⟨ad, c, n, k, h1, h2, _, h3⟩ => ?_
    obtain ⟨rfl, rfl, h4⟩ := h2 rfl
    exact ⟨ad, n, h1, h4, h3⟩
  · rw [if_neg h] at hr
    cases hr
    refine (q14Ints_any s vd vf w hd hf (decide_eq_false h)).mono fun e w' ⟨ad, c, n, k, h1, _, h2, h3⟩ => ?_
    obtain ⟨rfl, rfl⟩ := h2 rfl
    exact ⟨ad, n, h1, ints_no _ _ _, h3⟩
theorem shDiffer_u (s t : Sht) (vd vf vd' vf' : Value) (w : World) (hd : IntsAt w vd s.don) (hf : FeatsAt w vf s.feats) (kd : IntsAt w vd' t.don) (kf : FeatsAt w vf' t.feats) {li : List Int} {er : Int} (hr : diffR s t = (li, er)) : Calls Tryz.prog 46 #[shtV s vd vf, shtV t vd' vf'] w (ListE li er w) := by
  unfold diffR at hr
  by_cases h : ShtOk s ∧ ShtOk t
  · rw [if_pos h] at hr
    cases hr
    refine (shDiffer_yes s t vd vf vd' vf' w hd hf kd kf h.1 h.2).mono fun e w' ⟨ad, c, l, h1, h2, h3, h4, h5⟩ => ?_
    have hm := merge_diff h.1.2.2.2.2.2.2.2 h.2.2.2.2.2.2.2.2
    obtain rfl : l = mergeD s.feats t.feats := rise_ext h1.1 hm.1 fun x => by rw [h1.2, hm.2]
    exact ⟨ad, c, h3, h4, h5⟩
  · rw [if_neg h] at hr
    cases hr
    exact (shDiffer_no s t vd vf vd' vf' w hd hf kd kf h).mono fun e w' ⟨h1, h3⟩ => ⟨none, 0, h1, ints_no _ _ _, h3⟩
theorem q14Differ_u (s t : Sht) (vd vf vd' vf' : Value) (w : World) (hd : IntsAt w vd s.don) (hf : FeatsAt w vf s.feats) (kd : IntsAt w vd' t.don) (kf : FeatsAt w vf' t.feats) {li : List Int} {er : Int} (hr : diffR s t = (li, er)) : Calls Tryz.prog 47 #[shtV s vd vf, shtV t vd' vf'] w (ListE li er w) := by
  unfold diffR at hr
  by_cases h : ShtOk s ∧ ShtOk t
  · rw [if_pos h] at hr
    cases hr
    refine (q14Differ_any s t vd vf vd' vf' w hd hf kd kf (decide_eq_true h)).mono fun e w' ⟨ad, c, n, k, h1, h2, _, h3⟩ => ?_
    obtain ⟨rfl, rfl, h4⟩ := h2 rfl
    exact ⟨ad, c, h1, h4, h3⟩
  · rw [if_neg h] at hr
    cases hr
    refine (q14Differ_any s t vd vf vd' vf' w hd hf kd kf (decide_eq_false h)).mono fun e w' ⟨ad, c, n, k, h1, _, h2, h3⟩ => ?_
    obtain ⟨rfl, rfl⟩ := h2 rfl
    exact ⟨ad, c, h1, ints_no _ _ _, h3⟩
theorem q14Digest_u (s : Sht) (vd vf : Value) (w : World) (hd : IntsAt w vd s.don) (hf : FeatsAt w vf s.feats) {o : Bool} (ho : decide (ShtOk s) = o) {v er : Int} (hv : digQ s o = (v, er)) :
    Calls Tryz.prog 40 #[shtV s vd vf] w fun z w' => z = .returned (.tuple #[.int .u64 v, .int .i64 er]) ∧ Below w.heap.size w w' :=
  q14Digest_any s vd vf w hd hf ho (by cases o <;> exact hv)
theorem q14Shown_u (s : Sht) (vd vf : Value) (qx qy : Int) (w : World) (hd : IntsAt w vd s.don) (hf : FeatsAt w vf s.feats) {o : Bool} (ho : decide (ShtOk s ∧ Vld qx qy) = o) {v er : Int} (hv : shownQ s qx qy o = (v, er)) :
    Calls Tryz.prog 45 #[shtV s vd vf, .agg #[.int .i64 qx, .int .i64 qy]] w fun z w' => z = .returned (.tuple #[.int .i64 v, .int .i64 er]) ∧ Below w.heap.size w w' :=
  q14Shown_any s vd vf qx qy w hd hf (by
    unfold shown14
    cases o with
    | true =>
      rw [if_pos (of_decide_eq_true ho)]
      exact hv
    | false =>
      rw [if_neg (of_decide_eq_false ho)]
      exact hv)
def fromR (l : List Int) : Sht × Int := match fromL l with | some s => (s, 0) | none => (noSht, 7)
def FromU (u : Sht) (k : Int) (w : World) (e : Ending) (w' : World) : Prop := ∃ ad c af cf, e = .returned (.tuple #[shtV u (.slice ad u.don.length c) (.slice af u.feats.length cf), .int .i64 k]) ∧ IntsAt w' (.slice ad u.don.length c) u.don ∧ FeatsAt w' (.slice af u.feats.length cf) u.feats ∧ Below w.heap.size w w'
theorem shFrom_u (l : List Int) (ad : Option Addr) (c : Nat) (w : World) (h : IntsAt w (.slice ad l.length c) l) {u : Sht} {k : Int} (hr : fromR l = (u, k)) : Calls Tryz.prog 37 #[.slice ad l.length c] w (FromU u k w) := by
  unfold fromR at hr
  cases hl : fromL l with
  | none =>
    rw [hl] at hr
    cases hr
    exact (shFrom_no ad c w h hl).mono fun e w' ⟨h1, h2⟩ => ⟨none, 0, none, 0, h1, ints_noneF _, feats_noneF _, h2⟩
  | some s =>
    rw [hl] at hr
    cases hr
    exact (shFrom_yes ad c w h hl).mono fun e w' ⟨ad, c, af, cf, h1, h2, h3, h4⟩ => ⟨ad, c, af, cf, h1, h2, h3, h4⟩
theorem q14From_u (l : List Int) (ad : Option Addr) (c : Nat) (w : World) (h : IntsAt w (.slice ad l.length c) l) (hl : l.length ≤ 2000) {u : Sht} {k : Int} (hr : fromR l = (u, k)) : Calls Tryz.prog 38 #[.slice ad l.length c] w (FromU u k w) := by
  refine (q14From_any l ad c w h hl).mono fun e w' ⟨u', k', vd, vf, h1, h2, h3, h4, h5⟩ => ?_
  have e2 : (u, k) = (u', k') := hr.symm.trans h2
  cases e2
  obtain ⟨a1, c1, rfl, _, _, _⟩ := Lists.form h3
  obtain ⟨a2, c2, rfl, _, _, _⟩ := h4.form
  exact ⟨a1, c1, a2, c2, h1, h3, h4, h5⟩
end Go.Proofs.YtdmegkkifiahdaaGreat
