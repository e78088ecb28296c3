/- The walk of get at int. -/
import Derived.Test.YtdmegkkifiahdaaGreatShtK
namespace Go.Proofs.YtdmegkkifiahdaaGreat
open Go.RowKit
set_option linter.unusedVariables false
theorem Wr.past {b : Nat} {w w1 w2 : World} (h : Wr b w w1) (k : Below w.heap.size w1 w2) : Wr b w w2 :=
  ⟨k.os.trans h.os, k.tape.trans h.tape, k.output.trans h.output, Nat.le_trans h.size k.size, fun i hi hne => (k.block i hi).trans (h.block i hi hne)⟩
theorem RestAt.past {w0 w w' : World} {br B : Nat} {l : List Int} (h : RestAt w0 br w l) (k : Below B w w') (hB : br < B) : RestAt w0 br w' l := by
  obtain ⟨ad, c, h1, h2, h3, h4⟩ := h
  exact ⟨ad, c, (k.block br hB).trans h1, h2, h3.trans (k.mono (by omega)), h4⟩
theorem OwnI.wr {base br : Nat} {w w' : World} {v : Value} {l : List Int} (h : OwnI base w v l) (hb : Wr br w w') (hlt : br < base) : OwnI base w' v l := by
  refine ⟨h.1, ?_⟩
  rcases h.2 with h | ⟨g, cap, cur, rfl, hg, hh, hr⟩
  · exact .inl h
  · exact .inr ⟨g, cap, cur, rfl, hg, hb.block_ne hh (by omega), hr⟩
theorem getN_snoc {α : Type} (rd : List Int → α × List Int) : ∀ (k : Nat) (l : List Int) {m : List α} {t u : List Int} {x : α}, getN rd k l = (m, t) → rd t = (x, u) → getN rd (k + 1) l = (m ++ [x], u)
  | 0, l, m, t, u, x, h, hx => by
    simp only [getN] at h
    cases h
    simp [getN, hx]
  | k + 1, l, m, t, u, x, h, hx => by
    unfold getN at h
    obtain ⟨y, v⟩ : ∃ z, z = rd l := ⟨_, rfl⟩
    cases hr : getN rd k (rd l).2 with
    | mk m' t' =>
      rw [hr] at h
      simp only [] at h
      cases h
      have := getN_snoc rd k (rd l).2 hr hx
      rw [getN, this]
      simp
theorem getN_len {α : Type} (rd : List Int → α × List Int) : ∀ (k : Nat) (l : List Int), (getN rd k l).1.length = k
  | 0, l => rfl
  | k + 1, l => by rw [getN]; simp [getN_len rd k]
/-- What get gives at int. -/
def GetI (w0 : World) (br : Nat) (xs : List Int) (t : List Int) (w : World) (e : Ending) (w' : World) : Prop := ∃ ad c, e = .returned (.slice ad xs.length c) ∧ OwnI w.heap.size w' (.slice ad xs.length c) xs ∧ RestAt w0 br w' t ∧ Wr br w w'
set_option maxHeartbeats 2000000 in
theorem shgetI_any (w0 : World) (br : Nat) (l : List Int) (w : World) (h : RestAt w0 br w l) {xs tt : List Int} (hv : getL rdInt 200 l = (xs, tt)) :
    Calls Tryz.prog 115 #[nextV br, .int .i64 200, nextV br] w (GetI w0 br xs tt w) := by
  have hbr := h.lt
  obtain ⟨x, hx⟩ : ∃ x, l.getD 0 0 = x := ⟨_, rfl⟩
  obtain ⟨t, ht⟩ : ∃ t, l.drop 1 = t := ⟨_, rfl⟩
  have HR := Lib.hid h
  have HX := Lib.hid hx
  have HT := Lib.hid ht
  have EQ : Hid ((if x < 0 ∨ 200 < x then ([], t) else getN rdInt x.toNat t) = (xs, tt)) := Lib.hid (by rw [← hv]; unfold getL; rw [hx, ht])
  clear h hx ht hv
  go_enter Tryz.func115, Tryz.ntmps115
  go_wp2_with fail
  (with_reducible refine (shFrom1_at w0 br l _ HR.out HX.out HT.out).mono ?_)
  rintro e w1 ⟨rfl, hr1, hw1⟩
  have R1 := Lib.hid hr1
  clear hr1
  have hs1 := hw1.size
  rcases Int.lt_or_le x 0 with hneg | hpos
  · have E := EQ.out
    rw [if_pos (Or.inl hneg)] at E
    cases E
    clear EQ
    go_wp2_with fail
    go_returns
    exact ⟨none, 0, rfl, OwnI.nil _ _, R1.out, hw1⟩
  rcases Int.lt_or_le 200 x with hbig | hsmall
  · have E := EQ.out
    rw [if_pos (Or.inr hbig)] at E
    cases E
    clear EQ
    go_wp2_with fail
    go_returns
    exact ⟨none, 0, rfl, OwnI.nil _ _, R1.out, hw1⟩
  obtain ⟨n, rfl⟩ : ∃ n : Nat, x = n := ⟨x.toNat, by omega⟩
  have E := EQ.out
  rw [if_neg (by omega), Int.toNat_natCast] at E
  have E := Lib.hid E
  clear EQ
  go_wp2_with fail
  go_loopw [8, 19] (fun v i wr => ∃ (k : Nat) (ad : Option Addr) (c : Nat) (m u : List Int), k ≤ n ∧ i = .int .i64 k ∧ v = .slice ad m.length c ∧ getN rdInt k t = (m, u) ∧ OwnI w.heap.size wr (.slice ad m.length c) m ∧ RestAt w0 br wr u ∧ Wr br w wr) (fun _ i _ => n - (intOf i).toNat)
  case atStart => exact ⟨0, none, 0, [], t, by omega, rfl, rfl, rfl, OwnI.nil _ _, R1.out, hw1⟩
  case round =>
    clear R1 hw1
    obtain ⟨k, ad, c, m, u, hk, rfl, rfl, hm, how, hr, hb⟩ := hrel
    have OW := Lib.hid how
    have M := Lib.hid hm
    have R := Lib.hid hr
    have hml : m.length ≤ k := by have := getN_len rdInt k t; rw [hm] at this; exact Nat.le_of_eq this
    clear hm how hr
    have hszk := hb.size
    rcases Nat.lt_or_ge k n with hlt | hge
    rotate_left
    · obtain rfl : k = n := by omega
      have E2 := M.out.symm.trans E.out
      cases E2
      go_wp2_with fail
      go_returns
      exact ⟨ad, c, rfl, OW.out, R.out, hb⟩
    obtain ⟨y, hy⟩ : ∃ x, u.getD 0 0 = x := ⟨_, rfl⟩
    obtain ⟨u', hu'⟩ : ∃ t, u.drop 1 = t := ⟨_, rfl⟩
    have HY := Lib.hid hy
    have HU := Lib.hid hu'
    have STEP := Lib.hid (getN_snoc rdInt k t M.out (show rdInt u = (y, u') by unfold rdInt; rw [hy, hu']))
    clear hy hu' M
    go_wp2_with fail
    (with_reducible refine (shFrom1_at w0 br u _ R.out HY.out HU.out).mono ?_)
    rintro e w2 ⟨rfl, hr2, hw2⟩
    have R2 := Lib.hid hr2
    have O2 := Lib.hid ((OW.out.wr hw2 hbr).keep ((Below.refl w2.heap.size w2).alloc (Nat.le_refl _) (.cells #[.int .i64 y] 3)))
    have hb2 := hb.trans hw2
    have hs2 := hb2.size
    clear hr2 R OW
    go_wp2_with (at_builtin; refine wpList_app rfl _ _ rfl w.heap.size _ m [y] rfl O2.out _ 1 _ rfl rfl (lit_ints [y] rfl rfl rfl (by unfold maxLen; simp)) (by omega) (by simp; omega) ?_; intro ad3 c3 w3 hown3 hb3)
    have O3 := Lib.hid hown3
    have hb4 : Below w.heap.size w2 w3 := ((Below.refl w.heap.size w2).alloc hs2 _).trans hb3
    have hb5 := hb2.past hb4
    have R3 := Lib.hid (R2.out.past hb4 hbr)
    have LN := Lib.hid (show (m ++ [y]).length = m.length + 1 by simp)
    clear hown3 hb3
    go_wp2_with fail
    go_roundw
    case rel => exact ⟨k + 1, ad3, c3, m ++ [y], u', by omega, by go_num, by rw [LN.out], STEP.out, by rw [LN.out]; exact O3.out, R3.out, hb5⟩
    case measure => simp [intOf]; omega
end Go.Proofs.YtdmegkkifiahdaaGreat
