/- The walk of get at Sector. -/
import Derived.Test.YtdmegkkifiahdaaGreatFromS
namespace Go.Proofs.YtdmegkkifiahdaaGreat
open Go.RowKit
set_option linter.unusedVariables false
/-- The function value that reads a sector. -/
@[reducible] def secV (bp bn : Nat) : Value := .func (.func 120) #[] #[.pointer (some ⟨bp, 0, none⟩), .pointer (some ⟨bn, 0, none⟩)]
/-- What get gives at Sector. -/
def GetS (w0 : World) (br : Nat) (xs : List Sec) (t : List Int) (w : World) (e : Ending) (w' : World) : Prop := ∃ ad c, e = .returned (.slice ad xs.length c) ∧ OwnS w.heap.size w' (.slice ad xs.length c) xs ∧ RestAt w0 br w' t ∧ Wr br w w'
set_option maxHeartbeats 2000000 in
theorem shgetS_any (w0 : World) (br bn bp : Nat) (l : List Int) (w : World) (h : RestAt w0 br w l) (hf : w.heap[bn]? = some (.cells #[nextV br] 141 (0, 0))) (hp : w.heap[bp]? = some (.cells #[pointV bn] 142 (0, 0))) (hne : bn ≠ br) (hpe : bp ≠ br) {xs : List Sec} {tt : List Int} (hv : getL rdSec 12 l = (xs, tt)) :
    Calls Tryz.prog 119 #[nextV br, .int .i64 12, secV bp bn] w (GetS w0 br xs tt w) := by
  have hbr := h.lt
  obtain ⟨x, hx⟩ : ∃ x, l.getD 0 0 = x := ⟨_, rfl⟩
  obtain ⟨t, ht⟩ : ∃ t, l.drop 1 = t := ⟨_, rfl⟩
  have HR := Lib.hid h
  have HF := Lib.hid hf
  have HP := Lib.hid hp
  have HX := Lib.hid hx
  have HT := Lib.hid ht
  have EQ : Hid ((if x < 0 ∨ 12 < x then ([], t) else getN rdSec x.toNat t) = (xs, tt)) := Lib.hid (by rw [← hv]; unfold getL; rw [hx, ht])
  clear h hx ht hv hf hp
  go_enter Tryz.func119, Tryz.ntmps119
  go_wp2_with fail
  (with_reducible refine (shFrom1_at w0 br l _ HR.out HX.out HT.out).mono ?_)
  rintro e w1 ⟨rfl, hr1, hw1⟩
  have R1 := Lib.hid hr1
  clear hr1
  have hs1 := hw1.size
  rcases Int.lt_or_le x 0 with hneg | hpos
  · have E := EQ.out
    rw [if_pos (Or.inl hneg)] at E
    cases E
    clear EQ
    go_wp2_with fail
    go_returns
    exact ⟨none, 0, rfl, own_nil _ _ _ _, R1.out, hw1⟩
  rcases Int.lt_or_le 12 x with hbig | hsmall
  · have E := EQ.out
    rw [if_pos (Or.inr hbig)] at E
    cases E
    clear EQ
    go_wp2_with fail
    go_returns
    exact ⟨none, 0, rfl, own_nil _ _ _ _, R1.out, hw1⟩
  obtain ⟨n, rfl⟩ : ∃ n : Nat, x = n := ⟨x.toNat, by omega⟩
  have E := EQ.out
  rw [if_neg (by omega), Int.toNat_natCast] at E
  have E := Lib.hid E
  clear EQ
  go_wp2_with fail
  go_loopw [8, 19] (fun v i wr => ∃ (k : Nat) (ad : Option Addr) (c : Nat) (m : List Sec) (u : List Int), k ≤ n ∧ i = .int .i64 k ∧ v = .slice ad m.length c ∧ getN rdSec k t = (m, u) ∧ OwnS w.heap.size wr (.slice ad m.length c) m ∧ RestAt w0 br wr u ∧ Wr br w wr) (fun _ i _ => n - (intOf i).toNat)
  case atStart => exact ⟨0, none, 0, [], t, by omega, rfl, rfl, rfl, own_nil _ _ _ _, R1.out, hw1⟩
  case round =>
    clear R1 hw1
    obtain ⟨k, ad, c, m, u, hk, rfl, rfl, hm, how, hr, hb⟩ := hrel
    have OW := Lib.hid how
    have M := Lib.hid hm
    have R := Lib.hid hr
    have hml : m.length ≤ k := by have := getN_len rdSec k t; rw [hm] at this; exact Nat.le_of_eq this
    clear hm how hr
    have hszk := hb.size
    rcases Nat.lt_or_ge k n with hlt | hge
    rotate_left
    · obtain rfl : k = n := by omega
      have E2 := M.out.symm.trans E.out
      cases E2
      go_wp2_with fail
      go_returns
      exact ⟨ad, c, rfl, OW.out, R.out, hb⟩
    obtain ⟨s, hs⟩ : ∃ s, (rdSec u).1 = s := ⟨_, rfl⟩
    obtain ⟨u', hu'⟩ : ∃ t, (rdSec u).2 = t := ⟨_, rfl⟩
    have HU := Lib.hid (show rdSec u = (s, u') by rw [← hs, ← hu'])
    have STEP := Lib.hid (getN_snoc rdSec k t M.out HU.out)
    have hfr := hb.block_ne HF.out hne
    have hpr := hb.block_ne HP.out hpe
    clear hs hu' M
    go_wp2_with fail
    (with_reducible refine (shFrom31_at w0 br bn bp u _ R.out hfr hpr hne hpe HU.out).mono ?_)
    rintro e w2 ⟨rfl, hr2, hw2⟩
    have R2 := Lib.hid hr2
    have O2 := Lib.hid (own_keep (own_wr OW.out hw2 hbr) ((Below.refl w2.heap.size w2).alloc (Nat.le_refl _) (.cells #[.int .i64 s.fx, .int .i64 s.fy, .int .i64 s.tx, .int .i64 s.ty, .int .i64 s.col, .int .i64 s.rng] 151)))
    have hb2 := hb.trans hw2
    have hs2 := hb2.size
    clear hr2 R OW hfr hpr
    go_wp2_with (at_builtin; refine wpList_app1 rfl _ _ _ _ 6 48 (.agg #[.int .i64 0, .int .i64 0, .int .i64 0, .int .i64 0, .int .i64 0, .int .i64 0]) rfl Tryz.underlying30 (by kernel_rfl) rfl (by decide) w.heap.size _ m.length _ rfl O2.out w2.heap.size (secCells s) rfl (block_new _ _) rfl (by simp [secCells, Value.oneCell']) (by unfold maxLen; omega) (by omega) (by simp; omega) ?_; intro ad3 c3 w3 hown3 _ hb3)
    have O3 : Hid (OwnS w.heap.size w3 (.slice ad3 (m.length + 1) c3) (m ++ [s])) := Lib.hid (by unfold OwnS; rw [List.flatMap_append, List.length_append]; simpa using hown3)
    have hb4 : Below w.heap.size w2 w3 := ((Below.refl w.heap.size w2).alloc hs2 _).trans hb3
    have hb5 := hb2.past hb4
    have R3 := Lib.hid (R2.out.past hb4 hbr)
    have LN := Lib.hid (show (m ++ [s]).length = m.length + 1 by simp)
    clear hown3 hb3
    go_wp2_with fail
    go_roundw
    case rel => exact ⟨k + 1, ad3, c3, m ++ [s], u', by omega, by go_num, by rw [LN.out], STEP.out, by rw [LN.out]; exact O3.out, R3.out, hb5⟩
    case measure => simp [intOf]; omega
end Go.Proofs.YtdmegkkifiahdaaGreat
