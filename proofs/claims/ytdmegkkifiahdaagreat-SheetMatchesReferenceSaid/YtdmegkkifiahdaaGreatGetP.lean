/- The walk of get at point. -/
import Derived.Test.YtdmegkkifiahdaaGreatAppC
namespace Go.Proofs.YtdmegkkifiahdaaGreat
open Go.RowKit
set_option linter.unusedVariables false
/-- What get gives at point. -/
def GetP (w0 : World) (br : Nat) (xs : List (Int × Int)) (t : List Int) (w : World) (e : Ending) (w' : World) : Prop := ∃ ad c, e = .returned (.slice ad xs.length c) ∧ OwnP w.heap.size w' (.slice ad xs.length c) xs ∧ RestAt w0 br w' t ∧ Wr br w w'
set_option maxHeartbeats 2000000 in
theorem shgetP_any (w0 : World) (br bn : Nat) (l : List Int) (w : World) (h : RestAt w0 br w l) (hf : w.heap[bn]? = some (.cells #[nextV br] 141 (0, 0))) (hne : bn ≠ br) {xs : List (Int × Int)} {tt : List Int} (hv : getL rdPt 24 l = (xs, tt)) :
    Calls Tryz.prog 121 #[nextV br, .int .i64 24, pointV bn] w (GetP w0 br xs tt w) := by
  have hbr := h.lt
  obtain ⟨x, hx⟩ : ∃ x, l.getD 0 0 = x := ⟨_, rfl⟩
  obtain ⟨t, ht⟩ : ∃ t, l.drop 1 = t := ⟨_, rfl⟩
  have HR := Lib.hid h
  have HF := Lib.hid hf
  have HX := Lib.hid hx
  have HT := Lib.hid ht
  have EQ : Hid ((if x < 0 ∨ 24 < x then ([], t) else getN rdPt x.toNat t) = (xs, tt)) := Lib.hid (by rw [← hv]; unfold getL; rw [hx, ht])
  clear h hx ht hv hf
  go_enter Tryz.func121, Tryz.ntmps121
  go_wp2_with fail
  (with_reducible refine (shFrom1_at w0 br l _ HR.out HX.out HT.out).mono ?_)
  rintro e w1 ⟨rfl, hr1, hw1⟩
  have R1 := Lib.hid hr1
  clear hr1
  have hs1 := hw1.size
  rcases Int.lt_or_le x 0 with hneg | hpos
  · have E := EQ.out
    rw [if_pos (Or.inl hneg)] at E
    cases E
    clear EQ
    go_wp2_with fail
    go_returns
    exact ⟨none, 0, rfl, own_nil _ _ _ _, R1.out, hw1⟩
  rcases Int.lt_or_le 24 x with hbig | hsmall
  · have E := EQ.out
    rw [if_pos (Or.inr hbig)] at E
    cases E
    clear EQ
    go_wp2_with fail
    go_returns
    exact ⟨none, 0, rfl, own_nil _ _ _ _, R1.out, hw1⟩
  obtain ⟨n, rfl⟩ : ∃ n : Nat, x = n := ⟨x.toNat, by omega⟩
  have E := EQ.out
  rw [if_neg (by omega), Int.toNat_natCast] at E
  have E := Lib.hid E
  clear EQ
  go_wp2_with fail
  go_loopw [8, 19] (fun v i wr => ∃ (k : Nat) (ad : Option Addr) (c : Nat) (m : List (Int × Int)) (u : List Int), k ≤ n ∧ i = .int .i64 k ∧ v = .slice ad m.length c ∧ getN rdPt k t = (m, u) ∧ OwnP w.heap.size wr (.slice ad m.length c) m ∧ RestAt w0 br wr u ∧ Wr br w wr) (fun _ i _ => n - (intOf i).toNat)
  case atStart => exact ⟨0, none, 0, [], t, by omega, rfl, rfl, rfl, own_nil _ _ _ _, R1.out, hw1⟩
  case round =>
    clear R1 hw1
    obtain ⟨k, ad, c, m, u, hk, rfl, rfl, hm, how, hr, hb⟩ := hrel
    have OW := Lib.hid how
    have M := Lib.hid hm
    have R := Lib.hid hr
    have hml : m.length ≤ k := by have := getN_len rdPt k t; rw [hm] at this; exact Nat.le_of_eq this
    clear hm how hr
    have hszk := hb.size
    rcases Nat.lt_or_ge k n with hlt | hge
    rotate_left
    · obtain rfl : k = n := by omega
      have E2 := M.out.symm.trans E.out
      cases E2
      go_wp2_with fail
      go_returns
      exact ⟨ad, c, rfl, OW.out, R.out, hb⟩
    obtain ⟨y, hy⟩ : ∃ x, u.getD 0 0 = x := ⟨_, rfl⟩
    obtain ⟨y2, hy2⟩ : ∃ x, u.getD 1 0 = x := ⟨_, rfl⟩
    obtain ⟨u', hu'⟩ : ∃ t, u.drop 2 = t := ⟨_, rfl⟩
    have HY := Lib.hid hy
    have HY2 := Lib.hid hy2
    have HU := Lib.hid hu'
    have STEP := Lib.hid (getN_snoc rdPt k t M.out (show rdPt u = ((y, y2), u') by unfold rdPt; rw [hy, hy2, hu']))
    have hfr := hb.block_ne HF.out hne
    clear hy hy2 hu' M
    go_wp2_with fail
    (with_reducible refine (shFrom2_at w0 br bn u _ R.out hfr hne HY.out HY2.out HU.out).mono ?_)
    rintro e w2 ⟨rfl, hr2, hw2⟩
    have R2 := Lib.hid hr2
    have O2 := Lib.hid (own_keep (own_wr OW.out hw2 hbr) ((Below.refl w2.heap.size w2).alloc (Nat.le_refl _) (.cells #[.int .i64 y, .int .i64 y2] 28)))
    have hb2 := hb.trans hw2
    have hs2 := hb2.size
    clear hr2 R OW hfr
    go_wp2_with (at_builtin; refine wpList_app1 rfl _ _ _ _ 2 16 (.agg #[.int .i64 0, .int .i64 0]) rfl Tryz.underlying29 (by kernel_rfl) rfl (by decide) w.heap.size _ m.length _ rfl O2.out w2.heap.size (ptCells (y, y2)) rfl (block_new _ _) rfl (by simp [ptCells, Value.oneCell']) (by unfold maxLen; omega) (by omega) (by simp; omega) ?_; intro ad3 c3 w3 hown3 _ hb3)
    have O3 : Hid (OwnP w.heap.size w3 (.slice ad3 (m.length + 1) c3) (m ++ [(y, y2)])) := Lib.hid (by unfold OwnP; rw [List.flatMap_append, List.length_append]; simpa using hown3)
    have hb4 : Below w.heap.size w2 w3 := ((Below.refl w.heap.size w2).alloc hs2 _).trans hb3
    have hb5 := hb2.past hb4
    have R3 := Lib.hid (R2.out.past hb4 hbr)
    have LN := Lib.hid (show (m ++ [(y, y2)]).length = m.length + 1 by simp)
    clear hown3 hb3
    go_wp2_with fail
    go_roundw
    case rel => exact ⟨k + 1, ad3, c3, m ++ [(y, y2)], u', by omega, by go_num, by rw [LN.out], STEP.out, by rw [LN.out]; exact O3.out, R3.out, hb5⟩
    case measure => simp [intOf]; omega
end Go.Proofs.YtdmegkkifiahdaaGreat
