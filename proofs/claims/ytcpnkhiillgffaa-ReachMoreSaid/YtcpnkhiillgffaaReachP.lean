/- The walks of the reference's Worst and Delay. -/
import Derived.Test.YtcpnkhiillgffaaReachO
namespace Go.Proofs.Ytcpnkhiillgffaa
open Go.RowKit
attribute [local go_sem] bqOp bqAll bqUpon
attribute [local irreducible] wpQuiet wpBQ
set_option linter.unusedVariables false
def minA (R : Nat → Int) (Y : Nat → Nat → Int) : Nat → Int
  | 0 => R (Y 0 0).toNat
  | k + 1 => min (minA R Y k) (R (Y k 0).toNat)
def TblOk (np : Nat) (X : Nat → Nat → Int) (ne : Nat) (E : Nat → Nat → Int) (na : Nat) (A : Nat → Nat → Int) (f u : Int) : Prop := NetOk np X ne E ∧ AirsOk na A ∧ TimesOk f u
instance (np : Nat) (X : Nat → Nat → Int) (ne : Nat) (E : Nat → Nat → Int) (na : Nat) (A : Nat → Nat → Int) (f u : Int) : Decidable (TblOk np X ne E na A f u) := by unfold TblOk; exact inferInstance
/-- The table for the times f and u. -/
def tblI (X A E : Nat → Nat → Int) (na : Nat) (f u : Int) (ne : Nat) : Nat → Nat → Int := tblN X A E na f ne (u - f + 1).toNat
def worstQ (np : Nat) (X : Nat → Nat → Int) (ne : Nat) (E : Nat → Nat → Int) (na : Nat) (A : Nat → Nat → Int) (m : Nat) (Y : Nat → Nat → Int) (f u : Int) : Int × Int :=
  if TblOk np X ne E na A f u ∧ AreaOk np m Y then (if m = 0 then (0, 4) else (minA (tblI X A E na f u ne (u - f).toNat) Y m, 0)) else (0, 1)
set_option maxRecDepth 100000 in
set_option maxHeartbeats 2000000 in
theorem q33Worst_any (np c ne c2 na c4 m c3 : Nat) (ad ad2 ad4 ad3 : Option Addr) (X E A Y : Nat → Nat → Int) (f u : Int) (w : World) (hX : Rows 2 w (.slice ad np c) np X) (hE : Rows 4 w (.slice ad2 ne c2) ne E) (hA : Rows 4 w (.slice ad4 na c4) na A) (hY : Rows 1 w (.slice ad3 m c3) m Y) (hn1 : np ≤ 9223372036854775807) (hn2 : ne ≤ 9223372036854775807) (hn4 : na ≤ 9223372036854775807) (hn3 : m ≤ 9223372036854775807) {v e : Int} (hr : worstQ np X ne E na A m Y f u = (v, e)) :
    Calls Try.prog 26 #[.agg #[.slice ad np c, .slice ad2 ne c2], .slice ad4 na c4, .slice ad3 m c3, .int .i64 f, .int .i64 u] w fun z w' => z = .returned (.tuple #[.int .i64 v, .int .i64 e]) ∧ Below w.heap.size w w' := by
  unfold worstQ at hr
  have HX := Lib.hid hX
  have HE := Lib.hid hE
  have HA := Lib.hid hA
  have HY := Lib.hid hY
  have RR := Lib.hid hr
  clear hX hE hA hY hr
  obtain ⟨va, gva⟩ : ∃ va, decide (AreaOk np m Y) = va := ⟨_, rfl⟩
  have VA := Lib.hid gva
  clear gva
  go_enter Try.func26, Try.ntmps26
  go_wp2_with fail
  refine calls_named fun W hW => ?_
  obtain ⟨p1, hB⟩ := box1 hW
  clear hW
  have q1 := cellsL p1
  have hB0 := Below.refl W.heap.size W
  have P1 := Lib.hid p1
  clear p1
  by_cases hok : TblOk np X ne E na A f u
  rotate_left
  · have NO := Lib.hid hok
    have h := RR.out
    rw [if_neg (fun h => hok h.1)] at h
    cases h
    clear RR hok
    have no : ¬ (NetOk np X ne E ∧ AirsOk na A ∧ TimesOk f u) := NO.out
    (with_reducible refine (q33Table_no _ _ _ _ _ _ _ _ _ _ _ _ _ _ _ (HX.out.later hB) (HE.out.later hB) (HA.out.later hB) hn1 hn2 hn4 no).mono ?_)
    rintro z w1 ⟨rfl, hb1⟩
    have hB1 := below_step hB0 hb1
    go_wp2_with fail
    (with_reducible refine (q33Area_any _ _ _ _ _ _ _ _ _ _ _ (HY.out.later (below_step hB hB1)) hn1 hn3 VA.out).mono ?_)
    rintro z w2 ⟨rfl, hb2⟩
    have hB2 := below_step hB1 hb2
    go_wp2_with fail
    go_ret2
    exact ⟨rfl, below_step hB hB2⟩
  obtain ⟨g1, g2, g3⟩ := hok
  have G1 := Lib.hid g1
  have G2 := Lib.hid g2
  have G3 := Lib.hid g3
  obtain ⟨t1, t2, t3, t4⟩ := g3
  clear g1 g2
  (with_reducible refine (q33Table_yes _ _ _ _ _ _ _ _ _ _ _ _ _ _ _ (HX.out.later hB) (HE.out.later hB) (HA.out.later hB) hn1 hn2 hn4 G1.out G2.out G3.out).mono ?_)
  rintro z w1 ⟨tv, rfl, hb1, htab⟩
  have hB1 := below_step hB0 hb1
  obtain ⟨n, hn⟩ : ∃ n, (u - f + 1).toNat = n := ⟨_, rfl⟩
  rw [hn] at htab
  have NN := Lib.hid hn
  clear hn
  obtain ⟨at', ct, rfl, htt, htn⟩ := htab.form
  have TT := Lib.hid htt
  clear htab htt
  go_wp2_with fail
  (with_reducible refine (q33Area_any _ _ _ _ _ _ _ _ _ _ _ (HY.out.later (below_step hB hB1)) hn1 hn3 VA.out).mono ?_)
  rintro z w2 ⟨rfl, hb2⟩
  have hB2 := below_step hB1 hb2
  have TT2 := Lib.hid (TT.out.later hb2)
  clear hb2 TT q1
  cases va
  · have h := RR.out
    rw [if_neg (fun h => of_decide_eq_false VA.out h.2)] at h
    cases h
    clear RR
    go_wp2_with fail
    go_ret2
    exact ⟨rfl, below_step hB hB2⟩
  have ar := of_decide_eq_true VA.out
  have h := RR.out
  rw [if_pos ⟨⟨G1.out, G2.out, G3.out⟩, ar⟩] at h
  have AR := Lib.hid ar
  clear ar RR
  by_cases hm0 : m = 0
  · subst hm0
    rw [if_pos rfl] at h
    cases h
    go_wp2_with fail
    go_ret2
    exact ⟨rfl, below_step hB hB2⟩
  rw [if_neg hm0] at h
  obtain ⟨hv, rfl⟩ := Prod.mk.inj h
  have VV := Lib.hid hv
  clear h hv
  have dm : ((m : Int) == 0) = false := by simp; omega
  have m1 : 0 < m := by omega
  clear hm0
  obtain ⟨b, hb⟩ : ∃ b : Nat, u - f = (b : Int) := ⟨(u - f).toNat, by omega⟩
  have bn : b < n := by have := NN.out; omega
  obtain ⟨R, hR⟩ : ∃ R, tblI X A E na f u ne (u - f).toNat = R := ⟨_, rfl⟩
  have VR : Hid (minA R Y m = v) := Lib.hid (by rw [← hR]; exact VV.out)
  have htt := TT2.out
  obtain ⟨g, o, a, ca, rfl, hc, hl, hrow⟩ := htt.row bn
  have C1 := Lib.hid hc
  have RW := Lib.hid hrow
  have RE : Hid (∀ j, tblN X A E na f ne n b j = R j) := Lib.hid (fun j => by rw [← hR]; unfold tblI; rw [NN.out, show (u - f).toNat = b by omega])
  have jt : IntKind.i64.wrap (u - f) = (b : Int) := by rw [IntWalk.i64_in _ (by omega)]; exact hb
  have JT := Lib.hid jt
  have jbn : (b : Int) < (n : Int) := by omega
  clear hc hl hrow htt TT2 hb hR jt VV
  obtain ⟨g3', o3, rfl, hc3⟩ := HY.out.int m1
  obtain ⟨⟨a1, a2⟩, -⟩ := AR.out 0 m1
  obtain ⟨p, hp⟩ : ∃ p : Nat, Y 0 0 = (p : Int) := ⟨(Y 0 0).toNat, by omega⟩
  rw [hp] at hc3 a2
  have pl : p < np := by omega
  obtain ⟨g4, o4, rfl, hc4⟩ := RW.out.int pl
  rw [RE.out] at hc4
  have C3 := Lib.hid hc3
  have C4 := Lib.hid hc4
  have M0 : Hid (minA R Y 0 = R p) := Lib.hid (by unfold minA; rw [hp, Int.toNat_natCast])
  have jpl : (p : Int) < (np : Int) := by omega
  have jm : (0 : Int) < (m : Int) := by omega
  clear hc3 hc4 hp a1 a2
  go_wp2_with fail
  have c1 := fun d os => cell_later (below_regrown w2 d os) C1.out
  have c3' := fun d os => cell_later (below_regrown w2 d os) (cell_later (below_step hB hB2) C3.out)
  have c4' := fun d os => cell_later (below_regrown w2 d os) C4.out
  simp only [Nat.add_zero] at c3'
  have jt := JT.out
  have j0 : (0 : Int) ≤ 0 := by omega
  (refine wp_region_quiet_below (by kernel_rfl) (by kernel_rfl) ?_; (repeat (refine wpQuiet_step (fun K hK => ?_); replace hK := Lib.hid hK; go_simp; first | (refine hK.out _ ?_; clear hK K) | (apply Exists.intro; refine ⟨fun _ => ?_, hK.out _ ?_⟩; (fail); clear hK K))); refine wpQuiet_nil ?_)
  intro w3 hr3
  have hb23 := regrown_below hr3
  clear hr3 c1 c3' c4' jt
  go_wp2_with fail
  go_loopw [15, 16] (fun o i wr => ∃ k : Nat, k ≤ m ∧ i = .int .i64 k ∧ o = .int .i64 (minA R Y k) ∧ Below w2.heap.size w2 wr) (fun _ i _ => m - (intOf i).toNat)
  case atStart => exact ⟨0, by omega, rfl, by rw [M0.out], hb23⟩
  case round =>
    obtain ⟨k, hk, rfl, rfl, hbr⟩ := hrel
    obtain ⟨cur, hcur⟩ : ∃ cur, minA R Y k = cur := ⟨_, rfl⟩
    rw [hcur]
    have CU := Lib.hid hcur
    clear hcur
    have hBr := below_step hB2 hbr
    by_cases hlt : k < m
    rotate_left
    · obtain rfl : k = m := by omega
      go_wp2_with fail
      go_ret2
      exact ⟨ret_tup2 (by rw [← CU.out, VR.out]) rfl, below_step hB hBr⟩
    obtain ⟨g5, o5, hg5, hc5⟩ := HY.out.int hlt
    obtain ⟨rfl, rfl⟩ : g3' = g5 ∧ o3 = o5 := by simpa using hg5
    obtain ⟨⟨a1, a2⟩, -⟩ := AR.out k hlt
    obtain ⟨q, hq⟩ : ∃ q : Nat, Y k 0 = (q : Int) := ⟨(Y k 0).toNat, by omega⟩
    rw [hq] at hc5 a2
    have ql : q < np := by omega
    obtain ⟨g6, o6, hg6, hc6⟩ := RW.out.int ql
    obtain ⟨rfl, rfl⟩ : g4 = g6 ∧ o4 = o6 := by simpa using hg6
    rw [RE.out] at hc6
    obtain ⟨rq, hrq⟩ : ∃ rq, R q = rq := ⟨_, rfl⟩
    rw [hrq] at hc6
    have M1 : Hid (minA R Y (k + 1) = min cur rq) := Lib.hid (by rw [minA, CU.out, hq, Int.toNat_natCast, hrq])
    have C5 := Lib.hid hc5
    have C6 := Lib.hid hc6
    have jql : (q : Int) < (np : Int) := by omega
    clear hc5 hc6 hg5 hg6 hq hrq a1 a2
    go_wp2_with fail
    have c1 := fun d os => cell_later (below_regrown wr d os) (cell_later hbr C1.out)
    have c5 := fun d os => cell_later (below_regrown wr d os) (cell_later (below_step hB hBr) C5.out)
    have c6 := fun d os => cell_later (below_regrown wr d os) (cell_later hbr C6.out)
    have jt := JT.out
    by_cases hs : rq < cur
    · (refine wp_region_quiet_below (by kernel_rfl) (by kernel_rfl) ?_; (repeat (refine wpQuiet_step (fun K hK => ?_); replace hK := Lib.hid hK; go_simp; first | (refine hK.out _ ?_; clear hK K) | (apply Exists.intro; refine ⟨fun _ => ?_, hK.out _ ?_⟩; (fail); clear hK K))); refine wpQuiet_nil ?_)
      intro w4 hr4
      have hb4 := below_step hbr (regrown_below hr4)
      clear hr4 c1 c5 c6 jt
      go_wp2_with fail
      go_roundw
      case rel => exact ⟨k + 1, by omega, by go_num, by rw [M1.out, show min cur rq = rq by omega], hb4⟩
      case measure => simp [intOf]; omega
    · (refine wp_region_quiet_below (by kernel_rfl) (by kernel_rfl) ?_; (repeat (refine wpQuiet_step (fun K hK => ?_); replace hK := Lib.hid hK; go_simp; first | (refine hK.out _ ?_; clear hK K) | (apply Exists.intro; refine ⟨fun _ => ?_, hK.out _ ?_⟩; (fail); clear hK K))); refine wpQuiet_nil ?_)
      intro w4 hr4
      have hb4 := below_step hbr (regrown_below hr4)
      clear hr4 c1 c5 c6 jt
      go_wp2_with fail
      go_roundw
      case rel => exact ⟨k + 1, by omega, by go_num, by rw [M1.out, show min cur rq = cur by omega], hb4⟩
      case measure => simp [intOf]; omega
end Go.Proofs.Ytcpnkhiillgffaa
