/- The walk of Table. -/
import Derived.Test.YtcpnkhiillgffaaRtB
namespace Go.Proofs.Ytcpnkhiillgffaa
open Go.RowKit
attribute [local go_sem] bqOp bqAll bqUpon
attribute [local irreducible] wpQuiet wpBQ
set_option linter.unusedVariables false
theorem hTable_no (np c ne c2 na c4 : Nat) (ad ad2 ad4 : Option Addr) (X E A : Nat → Nat → Int) (f u : Int) (w : World) (hX : Rows 2 w (.slice ad np c) np X) (hE : Rows 4 w (.slice ad2 ne c2) ne E) (hA : Rows 4 w (.slice ad4 na c4) na A) (hn1 : np ≤ 9223372036854775807) (hn2 : ne ≤ 9223372036854775807) (hn4 : na ≤ 9223372036854775807) (hno : ¬ (NetOk np X ne E ∧ AirsOk na A ∧ TimesOk f u)) :
    Calls Try.prog 22 #[.agg #[.slice ad np c, .slice ad2 ne c2], .slice ad4 na c4, .int .i64 f, .int .i64 u] w fun z w' => z = .returned (.tuple #[.slice none 0 0, .int .i64 1]) ∧ Below w.heap.size w w' := by
  have NO := Lib.hid hno
  clear hno
  have HX := Lib.hid hX
  have HE := Lib.hid hE
  have HA := Lib.hid hA
  clear hX hE hA
  obtain ⟨v1, gv1⟩ : ∃ v1, decide (NetOk np X ne E) = v1 := ⟨_, rfl⟩
  have V1 := Lib.hid gv1
  clear gv1
  obtain ⟨v2, gv2⟩ : ∃ v2, decide (AirsOk na A) = v2 := ⟨_, rfl⟩
  have V2 := Lib.hid gv2
  clear gv2
  obtain ⟨v3, gv3⟩ : ∃ v3, decide (0 ≤ f ∧ f ≤ u ∧ u ≤ 10000000 ∧ u - f ≤ 400) = v3 := ⟨_, rfl⟩
  have V3 := Lib.hid gv3
  clear gv3
  go_enter Try.func22, Try.ntmps22
  go_wp2_with fail
  refine calls_named fun W hW => ?_
  obtain ⟨p1, hB⟩ := box1 hW
  clear hW
  have hB0 := Below.refl W.heap.size W
  (with_reducible refine (hValid_any _ _ _ _ _ _ _ _ _ (HX.out.later hB) (HE.out.later hB) hn1 hn2 V1.out).mono ?_)
  rintro e w1 ⟨rfl, hb1⟩
  have hB1 := below_step hB0 hb1
  cases v1
  · go_wp2_with fail
    go_ret2
    exact ⟨rfl, below_step hB hB1⟩
  go_wp2_with fail
  (with_reducible refine (hAreAirs_any _ _ _ _ _ (HA.out.later (below_step hB hB1)) hn4 V2.out).mono ?_)
  rintro e w2 ⟨rfl, hb2⟩
  have hB2 := below_step hB1 hb2
  cases v2
  · go_wp2_with fail
    go_ret2
    exact ⟨rfl, below_step hB hB2⟩
  go_wp2_with fail
  (with_reducible refine (hIsTimes_any _ _ _ V3.out).mono ?_)
  rintro e w3 ⟨rfl, hb3⟩
  have hB3 := below_step hB2 hb3
  cases v3
  · go_wp2_with fail
    go_ret2
    exact ⟨rfl, below_step hB hB3⟩
  exact (NO.out ⟨of_decide_eq_true V1.out, of_decide_eq_true V2.out, of_decide_eq_true V3.out⟩).elim
set_option maxHeartbeats 1000000 in
/-- What Table leaves: the table, in an array that has room for it. -/
def TabR (np ne na : Nat) (X E A : Nat → Nat → Int) (f u : Int) (w : World) (z : Ending) (w' : World) : Prop :=
  ∃ tv, z = .returned (.tuple #[tv, .int .i64 0]) ∧ Below w.heap.size w w' ∧ Tab w' tv (u - f + 1).toNat (fun _ => np) (tblN X A E na f ne (u - f + 1).toNat) ∧ Room tv (u - f + 1).toNat
theorem hTable_room (np c ne c2 na c4 : Nat) (ad ad2 ad4 : Option Addr) (X E A : Nat → Nat → Int) (f u : Int) (w : World) (hX : Rows 2 w (.slice ad np c) np X) (hE : Rows 4 w (.slice ad2 ne c2) ne E) (hA : Rows 4 w (.slice ad4 na c4) na A) (hn1 : np ≤ 9223372036854775807) (hn2 : ne ≤ 9223372036854775807) (hn4 : na ≤ 9223372036854775807) (g1 : NetOk np X ne E) (g2 : AirsOk na A) (g3 : TimesOk f u) :
    Calls Try.prog 22 #[.agg #[.slice ad np c, .slice ad2 ne c2], .slice ad4 na c4, .int .i64 f, .int .i64 u] w (TabR np ne na X E A f u w) := by
  have G1 := Lib.hid g1
  have G2 := Lib.hid g2
  have G3 := Lib.hid g3
  obtain ⟨t1, t2, t3, t4⟩ := g3
  have HX := Lib.hid hX
  have HE := Lib.hid hE
  have HA := Lib.hid hA
  clear hX hE hA g1 g2
  obtain ⟨R, hR⟩ : ∃ R : Nat, u - f + 1 = (R : Int) := ⟨(u - f + 1).toNat, by omega⟩
  have HR := Lib.hid hR
  have j1 : IntKind.i64.wrap (u - f) = u - f := IntWalk.i64_in _ (by omega)
  have j2 : IntKind.i64.wrap (u - f + 1) = (R : Int) := by rw [IntWalk.i64_in _ (by omega)]; exact hR
  clear hR
  go_enter Try.func22, Try.ntmps22
  go_wp2_with fail
  refine calls_named fun W hW => ?_
  obtain ⟨p1, hB⟩ := box1 hW
  clear hW
  have hB0 := Below.refl W.heap.size W
  have q1 := cellsL p1
  have P1 := Lib.hid p1
  clear p1
  (with_reducible refine (hValid_any _ _ _ _ _ _ _ _ _ (HX.out.later hB) (HE.out.later hB) hn1 hn2 (decide_eq_true G1.out)).mono ?_)
  rintro e w1 ⟨rfl, hb1⟩
  have hB1 := below_step hB0 hb1
  go_wp2_with fail
  (with_reducible refine (hAreAirs_any _ _ _ _ _ (HA.out.later (below_step hB hB1)) hn4 (decide_eq_true G2.out)).mono ?_)
  rintro e w2 ⟨rfl, hb2⟩
  have hB2 := below_step hB1 hb2
  go_wp2_with fail
  (with_reducible refine (hIsTimes_any _ _ _ (decide_eq_true ⟨t1, t2, t3, t4⟩)).mono ?_)
  rintro e w3 ⟨rfl, hb3⟩
  have hB3 := below_step hB2 hb3
  have hBw3 := below_step hB hB3
  go_wp2_with fail
  (with_reducible refine (hOver_any ad ad2 ad4 np c ne c2 na c4 f u w3).mono ?_)
  rintro e w4 ⟨b, bs, bu, bf, ba, bn, rfl, hb4, hbb, hW4, clock, hm4⟩
  unfold waterV
  have hBw4 := below_step hBw3 hb4
  have S4 : Sums w4 (fun _ => False) b (R + 1) (sumF X A na f) := ⟨#[], clock, hm4, fun e he => by simp at he⟩
  have CT := Lib.hid (hTableM_any ad ad2 ad4 np c ne c2 na c4 X A E f u R (R + 1) (fun _ => False) b bs bu bf ba bn w4 (by have := HR.out; omega) HR.out G1.out G2.out G3.out (HX.out.later hBw4) (HA.out.later hBw4) (HE.out.later hBw4) hW4 S4 (fun _ h => h.elim))
  clear q1 hW4 S4 hm4
  go_wp2_with fail
  (with_reducible refine CT.out.mono ?_)
  rintro e w5 ⟨tv, rfl, hb5, hs5, ht5, hr5⟩
  clear CT
  have hB5 : Below w.heap.size w w5 := hBw4.trans (hb5.below (by have := hBw3.size; omega) hBw4.size)
  have T5 := Lib.hid ht5
  clear ht5 hs5
  go_wp2_with fail
  go_ret2
  exact ⟨tv, rfl, hB5, by rw [show (u - f + 1).toNat = R by have := HR.out; omega]; exact T5.out, by rw [show (u - f + 1).toNat = R by have := HR.out; omega]; exact hr5⟩
theorem hTable_yes (np c ne c2 na c4 : Nat) (ad ad2 ad4 : Option Addr) (X E A : Nat → Nat → Int) (f u : Int) (w : World) (hX : Rows 2 w (.slice ad np c) np X) (hE : Rows 4 w (.slice ad2 ne c2) ne E) (hA : Rows 4 w (.slice ad4 na c4) na A) (hn1 : np ≤ 9223372036854775807) (hn2 : ne ≤ 9223372036854775807) (hn4 : na ≤ 9223372036854775807) (g1 : NetOk np X ne E) (g2 : AirsOk na A) (g3 : TimesOk f u) :
    Calls Try.prog 22 #[.agg #[.slice ad np c, .slice ad2 ne c2], .slice ad4 na c4, .int .i64 f, .int .i64 u] w (TabP np ne na X E A f u w) :=
  (hTable_room np c ne c2 na c4 ad ad2 ad4 X E A f u w hX hE hA hn1 hn2 hn4 g1 g2 g3).mono fun _ _ ⟨tv, h1, h2, h3, _⟩ => ⟨tv, h1, h2, h3⟩
end Go.Proofs.Ytcpnkhiillgffaa
