/- The walk of the reference's Delay. -/
import Derived.Test.YtcpnkhiillgffaaReachP
namespace Go.Proofs.Ytcpnkhiillgffaa
open Go.RowKit
attribute [local go_sem] bqOp bqAll bqUpon
attribute [local irreducible] wpQuiet wpBQ
set_option linter.unusedVariables false
/-- From n down while ok. -/
def backN (ok : Nat → Bool) : Nat → Nat
  | 0 => 0
  | b + 1 => if ok b then backN ok b else b + 1
def enoughT (m : Nat) (Y : Nat → Nat → Int) (T : Nat → Nat → Int) (need : Int) (t : Nat) : Bool := decide (EnoughOk m Y (T t) need)
def delayB (np : Nat) (X : Nat → Nat → Int) (ne : Nat) (E : Nat → Nat → Int) (na : Nat) (A : Nat → Nat → Int) (m : Nat) (Y : Nat → Nat → Int) (f u need : Int) : Nat := backN (enoughT m Y (tblI X A E na f u ne) need) (u - f + 1).toNat
def delayQ (np : Nat) (X : Nat → Nat → Int) (ne : Nat) (E : Nat → Nat → Int) (na : Nat) (A : Nat → Nat → Int) (m : Nat) (Y : Nat → Nat → Int) (f u need : Int) : Int × Int :=
  if TblOk np X ne E na A f u ∧ AreaOk np m Y ∧ (0 ≤ need ∧ need ≤ 400) then (if delayB np X ne E na A m Y f u need = (u - f + 1).toNat then (0, 4) else (f + (delayB np X ne E na A m Y f u need : Nat), 0)) else (0, 1)
set_option maxRecDepth 100000 in
set_option maxHeartbeats 2000000 in
theorem q33Delay_any (np c ne c2 na c4 m c3 : Nat) (ad ad2 ad4 ad3 : Option Addr) (X E A Y : Nat → Nat → Int) (f u need : Int) (w : World) (hX : Rows 2 w (.slice ad np c) np X) (hE : Rows 4 w (.slice ad2 ne c2) ne E) (hA : Rows 4 w (.slice ad4 na c4) na A) (hY : Rows 1 w (.slice ad3 m c3) m Y) (hn1 : np ≤ 9223372036854775807) (hn2 : ne ≤ 9223372036854775807) (hn4 : na ≤ 9223372036854775807) (hn3 : m ≤ 9223372036854775807) {v e : Int} (hr : delayQ np X ne E na A m Y f u need = (v, e)) :
    Calls Try.prog 30 #[.agg #[.slice ad np c, .slice ad2 ne c2], .slice ad4 na c4, .slice ad3 m c3, .int .i64 f, .int .i64 u, .int .i64 need] w fun z w' => z = .returned (.tuple #[.int .i64 v, .int .i64 e]) ∧ Below w.heap.size w w' := by
  unfold delayQ at hr
  have HX := Lib.hid hX
  have HE := Lib.hid hE
  have HA := Lib.hid hA
  have HY := Lib.hid hY
  have RR := Lib.hid hr
  clear hX hE hA hY hr
  obtain ⟨va, gva⟩ : ∃ va, decide (AreaOk np m Y) = va := ⟨_, rfl⟩
  have VA := Lib.hid gva
  clear gva
  obtain ⟨vd, gvd⟩ : ∃ vd, decide (0 ≤ need ∧ need ≤ 400) = vd := ⟨_, rfl⟩
  have VD := Lib.hid gvd
  clear gvd
  go_enter Try.func30, Try.ntmps30
  go_wp2_with fail
  refine calls_named fun W hW => ?_
  obtain ⟨p1, hB⟩ := box1 hW
  clear hW
  have q1 := cellsL p1
  have hB0 := Below.refl W.heap.size W
  have P1 := Lib.hid p1
  clear p1
  by_cases hok : TblOk np X ne E na A f u
  rotate_left
  · have NO := Lib.hid hok
    have h := RR.out
    rw [if_neg (fun h => hok h.1)] at h
    cases h
    clear RR hok
    have no : ¬ (NetOk np X ne E ∧ AirsOk na A ∧ TimesOk f u) := NO.out
    (with_reducible refine (q33Table_no _ _ _ _ _ _ _ _ _ _ _ _ _ _ _ (HX.out.later hB) (HE.out.later hB) (HA.out.later hB) hn1 hn2 hn4 no).mono ?_)
    rintro z w1 ⟨rfl, hb1⟩
    have hB1 := below_step hB0 hb1
    go_wp2_with fail
    (with_reducible refine (q33Area_any _ _ _ _ _ _ _ _ _ _ _ (HY.out.later (below_step hB hB1)) hn1 hn3 VA.out).mono ?_)
    rintro z w2 ⟨rfl, hb2⟩
    have hB2 := below_step hB1 hb2
    go_wp2_with fail
    (with_reducible refine (q33Need_any _ _ VD.out).mono ?_)
    rintro z w3 ⟨rfl, hb3⟩
    have hB3 := below_step hB2 hb3
    go_wp2_with fail
    go_ret2
    exact ⟨rfl, below_step hB hB3⟩
  obtain ⟨g1, g2, g3⟩ := hok
  have G1 := Lib.hid g1
  have G2 := Lib.hid g2
  have G3 := Lib.hid g3
  obtain ⟨t1, t2, t3, t4⟩ := g3
  clear g1 g2
  (with_reducible refine (q33Table_yes _ _ _ _ _ _ _ _ _ _ _ _ _ _ _ (HX.out.later hB) (HE.out.later hB) (HA.out.later hB) hn1 hn2 hn4 G1.out G2.out G3.out).mono ?_)
  rintro z w1 ⟨tv, rfl, hb1, htab⟩
  have hB1 := below_step hB0 hb1
  obtain ⟨n, hn⟩ : ∃ n, (u - f + 1).toNat = n := ⟨_, rfl⟩
  rw [hn] at htab
  have NN := Lib.hid hn
  clear hn
  obtain ⟨at', ct, rfl, htt, htn⟩ := htab.form
  have TT := Lib.hid htt
  clear htab htt
  go_wp2_with fail
  (with_reducible refine (q33Area_any _ _ _ _ _ _ _ _ _ _ _ (HY.out.later (below_step hB hB1)) hn1 hn3 VA.out).mono ?_)
  rintro z w2 ⟨rfl, hb2⟩
  have hB2 := below_step hB1 hb2
  go_wp2_with fail
  (with_reducible refine (q33Need_any _ _ VD.out).mono ?_)
  rintro z w3 ⟨rfl, hb3⟩
  have hB3 := below_step hB2 hb3
  have TT2 := Lib.hid (TT.out.later (below_step hb2 hb3))
  clear hb2 hb3 TT
  cases va
  · have h := RR.out
    rw [if_neg (fun h => of_decide_eq_false VA.out h.2.1)] at h
    cases h
    clear RR
    go_wp2_with fail
    go_ret2
    exact ⟨rfl, below_step hB hB3⟩
  have ar := of_decide_eq_true VA.out
  have AR := Lib.hid ar
  clear ar
  cases vd
  · have h := RR.out
    rw [if_neg (fun h => of_decide_eq_false VD.out h.2.2)] at h
    cases h
    clear RR
    go_wp2_with fail
    go_ret2
    exact ⟨rfl, below_step hB hB3⟩
  have h := RR.out
  rw [if_pos ⟨⟨G1.out, G2.out, G3.out⟩, AR.out, of_decide_eq_true VD.out⟩] at h
  obtain ⟨T, hT⟩ : ∃ T, tblI X A E na f u ne = T := ⟨_, rfl⟩
  unfold delayB at h
  rw [hT, NN.out] at h
  have RE : Hid (∀ t j, tblN X A E na f ne n t j = T t j) := Lib.hid (fun t j => by rw [← hT]; unfold tblI; rw [NN.out])
  have HR := Lib.hid h
  clear h RR hT
  have YA : Hid (∀ i, i < m → 0 ≤ Y i 0 ∧ Y i 0 < (np : Int)) := Lib.hid (fun i hi => (AR.out i hi).1)
  go_wp2_with fail
  go_loopw [18] (fun i wr => ∃ b : Nat, b ≤ n ∧ i = .int .i64 (f + (b : Int)) ∧ backN (enoughT m Y T need) n = backN (enoughT m Y T need) b ∧ Below w3.heap.size w3 wr) (fun i _ => (intOf i - f).toNat)
  case atStart => exact ⟨n, Nat.le_refl _, by have := NN.out; go_num, rfl, Below.refl _ _⟩
  case round =>
    obtain ⟨b, hbn, rfl, hbk, hbr⟩ := hrel
    have BK := Lib.hid hbk
    clear hbk
    have hBr := below_step hB3 hbr
    have nn := NN.out
    by_cases hb0 : b = 0
    · subst hb0
      have h := HR.out
      rw [BK.out] at h
      rw [show backN (enoughT m Y T need) 0 = 0 from rfl, if_neg (by omega : ¬ (0 = n))] at h
      obtain ⟨hv, rfl⟩ := Prod.mk.inj h
      clear h BK HR
      go_wp2_with fail
      go_ret2
      exact ⟨ret_tup2 hv rfl, below_step hB hBr⟩
    obtain ⟨k, rfl⟩ : ∃ k, b = k + 1 := ⟨b - 1, by omega⟩
    clear hb0
    have kn : k < n := by omega
    have htt := TT2.out.later hbr
    obtain ⟨g, o, a, ca, rfl, hc, hl, hrow⟩ := htt.row kn
    have C1 := Lib.hid hc
    have RW := Lib.hid hrow
    have jt : IntKind.i64.wrap (f + ((k + 1 : Nat) : Int) - 1 - f) = (k : Int) := by rw [IntWalk.i64_in _ (by omega)]; omega
    have jt2 : f + ((k + 1 : Nat) : Int) - 1 - f = (k : Int) := by omega
    have jkn : (k : Int) < (n : Int) := by omega
    have RW2 : Hid (Rows 1 wr (.slice a np ca) np (fun j _ => T k j)) := Lib.hid (by
      have h := RW.out
      rw [show (fun j (_ : Nat) => tblN X A E na f ne n k j) = (fun j _ => T k j) from funext fun j => funext fun _ => RE.out k j] at h
      exact h)
    clear hc hrow htt RW
    obtain ⟨ve, hve⟩ : ∃ ve, decide (EnoughOk m Y (T k) need) = ve := ⟨_, rfl⟩
    have VE := Lib.hid hve
    clear hve
    have jt3 : (f + ((k : Int) + 1) - 1 - f).toNat = k := by omega
    have c1 := C1.out
    go_wp2_with fail
    have hnp : np ≤ 9223372036854775807 := hn1
    (with_reducible refine (q33enough_any _ _ _ _ _ _ _ _ _ _ RW2.out (HY.out.later (below_step hB hBr)) hn1 hn3 YA.out VE.out).mono ?_)
    rintro z w4 ⟨rfl, hb4⟩
    have hB4 := below_step hBr hb4
    have hb34 := below_step hbr hb4
    clear jt jt2 jt3 c1 C1 RW2 q1
    cases ve
    · have h := HR.out
      have e1 : backN (enoughT m Y T need) (k + 1) = k + 1 := by
        unfold backN
        rw [if_neg (by unfold enoughT; rw [VE.out]; decide)]
      rw [BK.out, e1] at h
      clear BK HR
      by_cases hkn : k + 1 = n
      · rw [if_pos hkn] at h
        cases h
        go_wp2_with fail
        go_ret2
        exact ⟨rfl, below_step hB hB4⟩
      · rw [if_neg hkn] at h
        obtain ⟨hv, rfl⟩ := Prod.mk.inj h
        clear h
        go_wp2_with fail
        go_ret2
        exact ⟨ret_tup2 hv rfl, below_step hB hB4⟩
    have BK2 : Hid (backN (enoughT m Y T need) n = backN (enoughT m Y T need) k) := Lib.hid (by
      rw [BK.out]
      show (if enoughT m Y T need k = true then _ else _) = _
      rw [if_pos (by unfold enoughT; rw [VE.out])])
    clear BK HR
    go_wp2_with fail
    go_roundw
    case rel => exact ⟨k, by omega, by go_num, BK2.out, hb34⟩
    case measure => simp [intOf]; omega
end Go.Proofs.Ytcpnkhiillgffaa
