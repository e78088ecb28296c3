/- The walks of Count, in the reference and in the program. -/
import Derived.Test.YtcpnkhiillgffaaReachG
namespace Go.Proofs.Ytcpnkhiillgffaa
open Go.RowKit
attribute [local go_sem] bqOp bqAll bqUpon
attribute [local irreducible] wpQuiet wpBQ
set_option linter.unusedVariables false
theorem ret_tup2 {j k : IntKind} {a b a' b' : Int} (h1 : a = a') (h2 : b = b') : Ending.returned (.tuple #[.int j a, .int k b]) = Ending.returned (.tuple #[.int j a', .int k b']) := by rw [h1, h2]
def sumW (X A : Nat → Nat → Int) (na : Nat) (L : Nat → Nat → Int) (s : Int) : Nat → Int
  | 0 => 0
  | k + 1 => sumW X A na L s k + wayI X A na (L k 0) (L k 1) (L (k + 1) 0) (L (k + 1) 1) s
theorem sumW_bd (X A : Nat → Nat → Int) (na : Nat) (L : Nat → Nat → Int) (s : Int) (k : Nat) : 0 ≤ sumW X A na L s k ∧ sumW X A na L s k ≤ 2 * (na : Int) * (k : Int) := by
  induction k with
  | zero => simp [sumW]
  | succ k ih =>
    unfold sumW
    have h := wayI_bd X A na (L k 0) (L k 1) (L (k + 1) 0) (L (k + 1) 1) s
    have e : 2 * (na : Int) * ((k + 1 : Nat) : Int) = 2 * (na : Int) * (k : Int) + 2 * (na : Int) := by rw [Int.natCast_add, Int.mul_add]; omega
    omega
def CntOk (np : Nat) (X : Nat → Nat → Int) (ne : Nat) (E : Nat → Nat → Int) (nl : Nat) (L : Nat → Nat → Int) (na : Nat) (A : Nat → Nat → Int) (s : Int) : Prop := TrackOk np X ne E nl L ∧ AirsOk na A ∧ 0 ≤ s ∧ s ≤ 10000000
instance (np : Nat) (X : Nat → Nat → Int) (ne : Nat) (E : Nat → Nat → Int) (nl : Nat) (L : Nat → Nat → Int) (na : Nat) (A : Nat → Nat → Int) (s : Int) : Decidable (CntOk np X ne E nl L na A s) := by unfold CntOk; exact inferInstance
def countQ (np : Nat) (X : Nat → Nat → Int) (ne : Nat) (E : Nat → Nat → Int) (nl : Nat) (L : Nat → Nat → Int) (na : Nat) (A : Nat → Nat → Int) (s : Int) : Int × Int :=
  if CntOk np X ne E nl L na A s then (sumW X A na L s (nl - 1), 0) else (0, 1)
/-- The piece k is heard on the track, as the program reckons it. -/
def cntB (X L A : Nat → Nat → Int) (nl : Nat) (s : Int) (k : Nat) : Bool :=
  if A k 0 < max s (L 0 1) ∨ L (nl - 1) 1 ≤ A k 0 then false
  else
    hrB X (A k 1) (A k 2) (A k 3) (L ((fstI (fun j => decide (A k 0 < L j 1)) nl).toNat - 1) 0).toNat &&
      hrB X (A k 1) (A k 2) (A k 3) (if L ((fstI (fun j => decide (A k 0 < L j 1)) nl).toNat - 1) 1 = A k 0 then L ((fstI (fun j => decide (A k 0 < L j 1)) nl).toNat - 1) 0 else L (fstI (fun j => decide (A k 0 < L j 1)) nl).toNat 0).toNat
def countR (np : Nat) (X : Nat → Nat → Int) (ne : Nat) (E : Nat → Nat → Int) (nl : Nat) (L : Nat → Nat → Int) (na : Nat) (A : Nat → Nat → Int) (s : Int) : Int × Int :=
  if CntOk np X ne E nl L na A s then (cntN (cntB X L A nl s) na, 0) else (0, 1)
theorem fst_mid {B : Nat → Bool} {n : Nat} (h0 : B 0 = false) (h1 : B (n - 1) = true) : ∃ j, j + 1 < n ∧ fstI B n = ((j + 1 : Nat) : Int) := by
  have hb := fstI_bd B n
  have hn : 0 < n := by
    rcases Nat.eq_zero_or_pos n with h | h
    · subst h; rw [h0] at h1; cases h1
    · exact h
  have ha : 0 ≤ fstI B n := of_decide_eq_true (by rw [fstI_any]; exact decide_eq_true ⟨n - 1, by omega, h1⟩)
  obtain ⟨m, hm⟩ : ∃ m : Nat, fstI B n = (m : Int) := ⟨(fstI B n).toNat, by omega⟩
  rcases Nat.eq_zero_or_pos m with h | h
  · exfalso
    subst h
    by_cases g : ∀ i, i < n → B i = false
    · rw [fstI_none g] at hm; omega
    · have : ∃ i, i < n ∧ B i = true := Classical.byContradiction fun hx => g fun i hi => by
        cases hbi : B i
        · rfl
        · exact absurd ⟨i, hi, hbi⟩ hx
      have key : ∀ k, k ≤ n → fstI B k = 0 → B 0 = true := by
        intro k
        induction k with
        | zero => intro _ h; simp [fstI] at h
        | succ k ih =>
          intro hk h
          unfold fstI at h
          split at h
          · exact ih (by omega) h
          · split at h
            · rename_i hb
              have : k = 0 := by omega
              subst this; exact hb
            · omega
      rw [key n (by omega) (by omega)] at h0
      cases h0
  · exact ⟨m - 1, by omega, by rw [hm]; omega⟩
set_option maxHeartbeats 1000000 in
theorem q33Count_any (np c ne c2 na c4 nl c3 : Nat) (ad ad2 ad4 ad3 : Option Addr) (X E A L : Nat → Nat → Int) (s : Int) (w : World) (hX : Rows 2 w (.slice ad np c) np X) (hE : Rows 4 w (.slice ad2 ne c2) ne E) (hA : Rows 4 w (.slice ad4 na c4) na A) (hL : Rows 2 w (.slice ad3 nl c3) nl L) (hn1 : np ≤ 9223372036854775807) (hn2 : ne ≤ 9223372036854775807) (hn3 : nl ≤ 9223372036854775807) (hn4 : na ≤ 9223372036854775807) {v e : Int} (hr : countQ np X ne E nl L na A s = (v, e)) :
    Calls Try.prog 21 #[.agg #[.slice ad np c, .slice ad2 ne c2], .slice ad4 na c4, .slice ad3 nl c3, .int .i64 s] w fun z w' => z = .returned (.tuple #[.int .i64 v, .int .i64 e]) ∧ Below w.heap.size w w' := by
  unfold countQ at hr
  have HX := Lib.hid hX
  have HE := Lib.hid hE
  have HA := Lib.hid hA
  have HL := Lib.hid hL
  have RR := Lib.hid hr
  clear hX hE hA hL hr
  obtain ⟨v1, gv1⟩ : ∃ v1, decide (TrackOk np X ne E nl L) = v1 := ⟨_, rfl⟩
  have V1 := Lib.hid gv1
  clear gv1
  obtain ⟨v2, gv2⟩ : ∃ v2, decide (AirsOk na A) = v2 := ⟨_, rfl⟩
  have V2 := Lib.hid gv2
  clear gv2
  go_enter Try.func21, Try.ntmps21
  go_wp2_with fail
  refine calls_named fun W hW => ?_
  obtain ⟨p1, hB⟩ := box1 hW
  clear hW
  have q1 := cellsL p1
  have hB0 := Below.refl W.heap.size W
  have P1 := Lib.hid p1
  clear p1
  (with_reducible refine (q33Track_any _ _ _ _ _ _ _ _ _ _ _ _ _ (HX.out.later hB) (HE.out.later hB) (HL.out.later hB) hn1 hn2 hn3 V1.out).mono ?_)
  rintro e w1 ⟨rfl, hb1⟩
  have hB1 := below_step hB0 hb1
  go_wp2_with fail
  (with_reducible refine (q33Airs_any _ _ _ _ _ (HA.out.later (below_step hB hB1)) hn4 V2.out).mono ?_)
  rintro e w2 ⟨rfl, hb2⟩
  have hB2 := below_step hB1 hb2
  cases v1
  · have h := RR.out
    rw [if_neg (fun h => of_decide_eq_false V1.out h.1)] at h
    cases h
    clear RR
    go_wp2_with fail
    go_ret2
    exact ⟨rfl, below_step hB hB2⟩
  cases v2
  · have h := RR.out
    rw [if_neg (fun h => of_decide_eq_false V2.out h.2.1)] at h
    cases h
    clear RR
    go_wp2_with fail
    go_ret2
    exact ⟨rfl, below_step hB hB2⟩
  by_cases h3 : s < 0
  · have h := RR.out
    rw [if_neg (fun h => by have := h.2.2.1; omega)] at h
    cases h
    clear RR
    go_wp2_with fail
    go_ret2
    exact ⟨rfl, below_step hB hB2⟩
  have d3 : decide (s < 0) = false := by simp; omega
  have n3 : 0 ≤ s := by omega
  clear h3
  by_cases h4 : 10000000 < s
  · have h := RR.out
    rw [if_neg (fun h => by have := h.2.2.2; omega)] at h
    cases h
    clear RR
    go_wp2_with fail
    go_ret2
    exact ⟨rfl, below_step hB hB2⟩
  have d4 : decide (10000000 < s) = false := by simp; omega
  have n4 : s ≤ 10000000 := by omega
  clear h4
  have g1 := of_decide_eq_true V1.out
  have g2 := of_decide_eq_true V2.out
  have h := RR.out
  rw [if_pos ⟨g1, g2, n3, n4⟩] at h
  cases h
  clear RR
  have G1 := Lib.hid g1
  have G2 := Lib.hid g2
  have nl1 := g1.2.1
  have nl2 := g1.2.2.1
  have na4 := g2.1
  clear g1 g2
  go_wp2_with fail
  clear q1
  go_loopw [12, 13] (fun o i wr => ∃ k : Nat, k + 1 ≤ nl ∧ i = .int .i64 k ∧ o = .int .i64 (sumW X A na L s k) ∧ Below W.heap.size W wr) (fun _ i _ => nl - (intOf i).toNat)
  case atStart => exact ⟨0, by omega, rfl, rfl, hB2⟩
  case round =>
    obtain ⟨k, hk, rfl, rfl, hbr⟩ := hrel
    have bd := sumW_bd X A na L s k
    have bk : 2 * (na : Int) * (k : Int) ≤ 800000 := by
      have h1 := Int.mul_le_mul (show 2 * (na : Int) ≤ 800 by omega) (show (k : Int) ≤ 1000 by omega) (by omega) (by omega)
      omega
    obtain ⟨cc, hcc⟩ : ∃ cc, sumW X A na L s k = cc := ⟨_, rfl⟩
    rw [hcc] at bd
    rw [hcc]
    have CC := Lib.hid hcc
    have b1 : 0 ≤ cc := bd.1
    have b2 : cc ≤ 800000 := by omega
    clear hcc bd bk
    by_cases hlt : k + 1 < nl
    rotate_left
    · have dl : decide ((k : Int) + 1 < (nl : Int)) = false := by simp; omega
      have dn : decide (k + 1 < nl) = false := by simp; omega
      have le1 : (nl : Int) ≤ (k : Int) + 1 := by omega
      have le2 : nl ≤ k + 1 := by omega
      have KN := Lib.hid (show nl - 1 = k by omega)
      clear hlt
      go_wp2_with fail
      go_ret2
      exact ⟨ret_tup2 (by rw [KN.out, CC.out]) rfl, below_step hB hbr⟩
    have S0 := G1.out.2.2.2.1 k (by omega)
    have S1 := G1.out.2.2.2.1 (k + 1) hlt
    obtain ⟨⟨a1, a2⟩, a3, a4⟩ := S0
    obtain ⟨⟨a5, a6⟩, a7, a8⟩ := S1
    obtain ⟨p, hp⟩ : ∃ p : Nat, L k 0 = (p : Int) := ⟨(L k 0).toNat, by omega⟩
    obtain ⟨q, hq⟩ : ∃ q : Nat, L (k + 1) 0 = (q : Int) := ⟨(L (k + 1) 0).toNat, by omega⟩
    obtain ⟨wv, hwv⟩ : ∃ wv, wayI X A na (p : Int) (L k 1) (q : Int) (L (k + 1) 1) s = wv := ⟨_, rfl⟩
    have bw := wayI_bd X A na (p : Int) (L k 1) (q : Int) (L (k + 1) 1) s
    rw [hwv] at bw
    have SW : Hid (sumW X A na L s (k + 1) = cc + wv) := Lib.hid (by rw [sumW, CC.out, hp, hq, hwv])
    obtain ⟨g, o, rfl, hc⟩ := HL.out.row (show k < nl by omega)
    obtain ⟨g', o', hg', hc'⟩ := HL.out.row hlt
    obtain ⟨rfl, rfl⟩ : g = g' ∧ o = o' := by simpa using hg'
    have z0 := hc 0 (by omega)
    have z2 := hc' 0 (by omega)
    rw [hp] at z0
    rw [hq] at z2
    have C0 := Lib.hid z0
    have C1 := Lib.hid (hc 1 (by omega))
    have C2 := Lib.hid z2
    have C3 := Lib.hid (hc' 1 (by omega))
    rw [hp] at a2
    rw [hq] at a6
    have pl : p < np := by omega
    have ql : q < np := by omega
    have CF := Lib.hid (fun w' hb => q33way_any np c ne c2 na c4 ad ad2 ad4 X A p q (L k 1) (L (k + 1) 1) s w' (HX.out.later (below_step hB hb)) (HA.out.later (below_step hB hb)) hn1 G1.out.1.2.2.2.1 G2.out pl ql a3 a4 a7 a8 hwv)
    clear hc hc' hg' z0 z2 hp hq hwv a1 a2 a5 a6
    go_wp2_with fail
    have q1 := cellsR (block_later hbr P1.out)
    have c0 := fun d os => cell_later (below_regrown wr d os) (cell_later (below_step hB hbr) C0.out)
    have c1 := fun d os => cell_later (below_regrown wr d os) (cell_later (below_step hB hbr) C1.out)
    have c5 := fun d os => cell_later (below_regrown wr d os) (cell_later (below_step hB hbr) C2.out)
    have c6 := fun d os => cell_later (below_regrown wr d os) (cell_later (below_step hB hbr) C3.out)
    simp only [Nat.add_zero] at c0 c5
    have jw : IntKind.i64.wrap (cc + wv) = cc + wv := IntWalk.i64_in _ (by omega)
    have jk : IntKind.i64.wrap ((k : Int) + 1) = (k : Int) + 1 := IntWalk.i64_in _ (by omega)
    have jn : ((k : Int) + 1).toNat = k + 1 := by omega
    have jl : (k : Int) + 1 < (nl : Int) := by omega
    have jp : 0 ≤ (k : Int) + 1 := by omega
    have jli : (k : Int) < (nl : Int) := by omega
    have jln : k < nl := by omega
    (refine wp_region_quiet_below (by kernel_rfl) (by kernel_rfl) ?_; (repeat (refine wpQuiet_step (fun K hK => ?_); replace hK := Lib.hid hK; go_simp; first | (refine hK.out _ ?_; clear hK K) | (apply Exists.intro; refine ⟨fun _ => ?_, hK.out _ ?_⟩; ((go_at_call 54; exact Calls.regrown_of (CF.out _ (below_step hbr (below_regrown _ _ _))))); clear hK K))); refine wpQuiet_nil ?_)
    intro w3 hr3
    have hB3 := below_step hbr (regrown_below hr3)
    clear hr3 q1 c0 c1 c5 c6 jw jk jn CF
    go_wp2_with fail
    go_roundw
    case rel => exact ⟨k + 1, by omega, by go_num, by rw [SW.out], hB3⟩
    case measure => simp [intOf]; omega
end Go.Proofs.Ytcpnkhiillgffaa
