/- Contracts of sheet's functions for every input, as the laws of chapter 14 call them. -/
import Derived.Test.YtmoofkoibaihhaaGreatShtN
import Derived.Test.YtmoofkoibaihhaaGreatShtF
namespace Go.Proofs.YtmoofkoibaihhaaGreat
open Go.RowKit
set_option linter.unusedVariables false
theorem ints_rows {w : World} {v : Value} {l : List Int} (h : IntsAt w v l) : Rows 1 w v l.length (fun i _ => l.getD i 0) := Lists.rows h
theorem cellR1 {w : World} {a : Addr} {v : Value} (h : w.cell? a = some v) (d : Nat) (os : Array Obj) : (Sort.grow (redrawn w d) os).cell? a = some v := cell_later (below_regrown w d os) h
theorem rise_at {l : List Int} (h : l.Pairwise (· < ·)) {i j : Nat} (hij : i < j) (hj : j < l.length) : l.getD i 0 < l.getD j 0 := by
  rw [List.getD_eq_getElem?_getD, List.getD_eq_getElem?_getD, List.getElem?_eq_getElem hj, List.getElem?_eq_getElem (by omega : i < l.length)]
  exact List.pairwise_iff_getElem.1 h i j (by omega) hj hij
def IntsQ (s : Sht) (o : Bool) (w : World) (e : Ending) (w' : World) : Prop := ∃ ad c n er, e = .returned (.tuple #[.slice ad n c, .int .i64 er]) ∧ (o = true → er = 0 ∧ n = (encS s).length ∧ IntsAt w' (.slice ad n c) (encS s)) ∧ (o = false → er = 1) ∧ Below w.heap.size w w'
theorem shInts_any (s : Sht) (vd vf : Value) (w : World) (hd : IntsAt w vd s.don) (hf : FeatsAt w vf s.feats) {o : Bool} (ho : decide (ShtOk s) = o) : Calls Tryz.prog 13 #[shtV s vd vf] w (IntsQ s o w) := by
  cases o with
  | true =>
    refine (shInts_yes s vd vf w hd hf (of_decide_eq_true ho)).mono fun e w' h => ?_
    obtain ⟨ad, c, h1, h2, h3⟩ := h
    exact ⟨ad, c, _, 0, h1, fun _ => ⟨rfl, rfl, h2⟩, fun h => by simp at h, h3⟩
  | false =>
    refine (shInts_no s vd vf w hd hf (of_decide_eq_false ho)).mono fun e w' h => ?_
    obtain ⟨h1, h3⟩ := h
    exact ⟨_, _, _, 1, h1, fun h => by simp at h, fun _ => rfl, h3⟩
def DiffQ (s t : Sht) (o : Bool) (w : World) (e : Ending) (w' : World) : Prop := ∃ ad c n er l, e = .returned (.tuple #[.slice ad n c, .int .i64 er]) ∧ (o = true → er = 0 ∧ n = l.length ∧ n ≤ 600 ∧ DiffL s.feats t.feats l ∧ IntsAt w' (.slice ad n c) l) ∧ (o = false → er = 1) ∧ Below w.heap.size w w'
theorem shDiffer_any (s t : Sht) (vd vf vd' vf' : Value) (w : World) (hd : IntsAt w vd s.don) (hf : FeatsAt w vf s.feats) (kd : IntsAt w vd' t.don) (kf : FeatsAt w vf' t.feats) {o : Bool} (ho : decide (ShtOk s ∧ ShtOk t) = o) : Calls Tryz.prog 18 #[shtV s vd vf, shtV t vd' vf'] w (DiffQ s t o w) := by
  cases o with
  | true =>
    have h := of_decide_eq_true ho
    refine (shDiffer_yes s t vd vf vd' vf' w hd hf kd kf h.1 h.2).mono fun e w' h => ?_
    obtain ⟨ad, c, l, h1, h2, h3, h4, h5⟩ := h
    exact ⟨ad, c, _, 0, l, h3, fun _ => ⟨rfl, rfl, h2, h1, h4⟩, fun h => by simp at h, h5⟩
  | false =>
    refine (shDiffer_no s t vd vf vd' vf' w hd hf kd kf (of_decide_eq_false ho)).mono fun e w' h => ?_
    obtain ⟨h1, h3⟩ := h
    exact ⟨_, _, _, 1, [], h1, fun h => by simp at h, fun _ => rfl, h3⟩
def shownQ (s : Sht) (qx qy : Int) : Bool → Int × Int
  | true => (shownS s qx qy, 0)
  | false => (0, 1)
theorem shShown_any (s : Sht) (vd vf : Value) (qx qy : Int) (w : World) (hd : IntsAt w vd s.don) (hf : FeatsAt w vf s.feats) {o : Bool} (ho : decide (ShtOk s ∧ Vld qx qy) = o) {v er : Int} (hv : shownQ s qx qy o = (v, er)) : Calls Tryz.prog 22 #[shtV s vd vf, .agg #[.int .i64 qx, .int .i64 qy]] w fun z w' => z = .returned (.tuple #[.int .i64 v, .int .i64 er]) ∧ Below w.heap.size w w' := by
  cases o with
  | true =>
    have h := of_decide_eq_true ho
    cases hv
    exact shShown_yes s vd vf qx qy w hd hf h.1 h.2 rfl
  | false =>
    cases hv
    exact shShown_no s vd vf qx qy w hd hf (of_decide_eq_false ho)
def digQ (s : Sht) : Bool → Int × Int
  | true => ((digN (encS s) : Int), 0)
  | false => (0, 1)
theorem shDigest_any (s : Sht) (vd vf : Value) (w : World) (hd : IntsAt w vd s.don) (hf : FeatsAt w vf s.feats) {o : Bool} (ho : decide (ShtOk s) = o) {v er : Int} (hv : digQ s o = (v, er)) : Calls Tryz.prog 27 #[shtV s vd vf] w fun z w' => z = .returned (.tuple #[.int .u64 v, .int .i64 er]) ∧ Below w.heap.size w w' := by
  cases o with
  | true =>
    cases hv
    exact shDigest_yes s vd vf w hd hf (of_decide_eq_true ho)
  | false =>
    cases hv
    exact shDigest_no s vd vf w hd hf (of_decide_eq_false ho)
theorem ints_take {w : World} {ad : Option Addr} {n c k : Nat} {l : List Int} (h : IntsAt w (.slice ad n c) l) (hn : l.length = n) (hk : k ≤ n) : IntsAt w (.slice ad k c) (l.take k) := by
  subst hn
  have hl : (l.take k).length = k := by rw [List.length_take]; omega
  obtain ⟨hr, hc⟩ := h
  obtain ⟨ad', c', e, h1, h2⟩ := hr
  cases e
  refine ⟨?_, fun _ _ _ e => by cases e; exact Nat.le_trans hk (hc _ _ _ rfl)⟩
  rw [hl]
  refine ⟨ad, c, rfl, by omega, fun i hi => ?_⟩
  obtain ⟨g, o, e, hcell⟩ := h2 i (by omega)
  refine ⟨g, o, e, fun j hj => ?_⟩
  rw [hcell j hj]
  simp [List.getD_eq_getElem?_getD, hi]
/-- append of a list of integers to the call's own one; the length by its name. -/
theorem wpList_appN {ops : Array Oper} {rest : List Oper} {o : Oper} {a : Act} {Q : Exit → Act → World → Prop} {w : World} (hgd : o.guard = none) (s x : Operand)
    (ho : o.op = .call { callee := .builtin .append, args := #[s, x], argTypes := #[24, 24] }) (base : Nat) (v : Value) (l m : List Int) (N : Nat) (hs : a.eval s = v) (hown : OwnI base w v l)
    (ad : Option Addr) (n c : Nat) (hx : a.eval x = .slice ad n c) (hn : m.length = n) (hX : IntsAt w (.slice ad n c) m) (hN : l.length + n = N) (hsz : N ≤ 1000000) (hbase : base ≤ w.heap.size)
    (h : ∀ ad' c' w', OwnI base w' (.slice ad' N c') (l ++ m) → Below base w w' → wpList Tryz.prog ops Q rest (a.put o.dst (.slice ad' N c')) w') : wpList Tryz.prog ops Q (o :: rest) a w := by
  subst hN
  exact wpList_app hgd s x ho base v l m hs hown ad n c hx hn hX hsz hbase h
/-- What From answers, by its error. -/
def FromE (o : Bool) (w : World) (e : Ending) (w' : World) : Prop := ∃ (u : Sht) (ad : Option Addr) (n c : Nat) (af : Option Addr) (m cf : Nat) (er : Int), e = .returned (.tuple #[shtV u (.slice ad n c) (.slice af m cf), .int .i64 er]) ∧ (o = true → er = 0) ∧ (o = false → er = 7) ∧ Below w.heap.size w w'
theorem shFrom_err {l : List Int} {n : Nat} (hn : l.length = n) (ad : Option Addr) (c : Nat) (w : World) (h : IntsAt w (.slice ad n c) l) {o : Bool} (ho : (fromL l).isSome = o) : Calls Tryz.prog 14 #[.slice ad n c] w (FromE o w) := by
  cases hl : fromL l with
  | none =>
    rw [hl] at ho
    subst ho
    refine (shFrom_noN hn ad c w h hl).mono fun e w' h => ?_
    obtain ⟨h1, h2⟩ := h
    exact ⟨noSht, _, _, _, _, _, _, 7, h1, fun h => by simp at h, fun _ => rfl, h2⟩
  | some s =>
    rw [hl] at ho
    subst ho
    refine (shFrom_yesN hn ad c w h hl).mono fun e w' h => ?_
    obtain ⟨ad, c, af, cf, h1, _, _, h2⟩ := h
    exact ⟨s, _, _, _, _, _, _, 0, h1, fun _ => rfl, fun h => by simp at h, h2⟩
end Go.Proofs.YtmoofkoibaihhaaGreat
