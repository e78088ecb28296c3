/- The walk of Worst: the least integer of the last row for the area, and a track. -/
import Derived.Test.YtcpnkhiillgffaaRtE
import Derived.Deep.RegionHeld3
namespace Go.Proofs.Ytcpnkhiillgffaa
open Go.RowKit
attribute [local go_sem] bqOp bqAll bqUpon
attribute [local irreducible] wpQuiet wpBQ
set_option linter.unusedVariables false
theorem hOver_det (ad ad2 ad4 : Option Addr) (np c ne c2 na c4 : Nat) (f u : Int) (w : World) :
    Calls Try.prog 56 #[.agg #[.slice ad np c, .slice ad2 ne c2], .slice ad4 na c4, .int .i64 f, .int .i64 u] w fun z w' =>
      z = .returned (waterV ad ad2 np c ne c2 f (w.heap.size + 6) (w.heap.size + 3) (w.heap.size + 2) (w.heap.size + 1) w.heap.size) ∧ Below w.heap.size w w' ∧ Wat w' ad ad2 ad4 np c ne c2 na c4 f u (w.heap.size + 5) (w.heap.size + 6) (w.heap.size + 3) (w.heap.size + 2) (w.heap.size + 1) w.heap.size ∧ ∃ clock, w'.heap[w.heap.size + 5]? = some (.map #[] clock) := by
  have hmm := @run_makeMap Try.prog
  go_enter Try.func56, Try.ntmps56
  go_wp2
  refine bodyPost_ret (v := waterV ad ad2 np c ne c2 f (w.heap.size + 6) (w.heap.size + 3) (w.heap.size + 2) (w.heap.size + 1) w.heap.size) (by simp [waterV, results, Try.results56, go_sem]) rfl ?_
  generalize hW : (World.alloc _ _) = W
  obtain ⟨p1, p2, p3, p4, p5, p6, p7, hB⟩ := box7 hW.symm
  exact ⟨rfl, hB, ⟨p7, p4, p3, ⟨_, p2⟩, _, p1⟩, _, p6⟩
theorem hWorst1_any (p q nr c bx : Nat) (adr : Option Addr) (R : Nat → Int) (w : World) (hR : Rows 1 w (.slice adr nr c) nr (fun i _ => R i)) (hp : p < nr) (hq : q < nr) (bd : ∀ i, i < nr → -1000000000 ≤ R i ∧ R i ≤ 1000000000)
    (h1 : w.heap[bx]? = some (.cells #[.slice adr nr c] 28 (0, 0))) {r : Int} (hr : R p - R q = r) :
    Calls Try.prog 61 #[.int .i64 (p : Int), .int .i64 (q : Int), .pointer (some ⟨bx, 0, none⟩)] w fun z w' => z = .returned (.int .i64 r) ∧ Below w.heap.size w w' := by
  obtain ⟨g, o, rfl, hc⟩ := hR.int hp
  obtain ⟨g2, o2, e2, hc2⟩ := hR.int hq
  obtain ⟨rfl, rfl⟩ : g = g2 ∧ o = o2 := by simpa using e2
  have b1 := bd p hp
  have b2 := bd q hq
  have q1 := cellsR h1
  obtain ⟨v1, e1⟩ : ∃ v1, R p = v1 := ⟨_, rfl⟩
  obtain ⟨v2, e3⟩ : ∃ v2, R q = v2 := ⟨_, rfl⟩
  rw [e1] at hc b1 hr
  rw [e3] at hc2 b2 hr
  have HR := Lib.hid hr
  have s1 := fun d os => cell_later (below_regrown w d os) hc
  have s2 := fun d os => cell_later (below_regrown w d os) hc2
  have jp : (p : Int) < (nr : Int) := by omega
  have jq : (q : Int) < (nr : Int) := by omega
  have jw : IntKind.i64.wrap (v1 - v2) = v1 - v2 := IntWalk.i64_in _ (by omega)
  clear hr hc hc2 hR bd e2 e1 e3 h1
  go_enter Try.func61, Try.ntmps61
  go_wp2_with fail
  (refine wp_region_quiet_below (by kernel_rfl) (by kernel_rfl) ?_; (repeat (refine wpQuiet_step (fun K hK => ?_); replace hK := Lib.hid hK; go_simp; first | (refine hK.out _ ?_; clear hK K) | (apply Exists.intro; refine ⟨fun _ => ?_, hK.out _ ?_⟩; (fail); clear hK K))); refine wpQuiet_nil ?_)
  intro w1 hr1
  have hb1 := regrown_below hr1
  clear hr1 q1 s1 s2
  go_wp2_with fail
  go_returns
  exact ⟨ret_int HR.out, hb1⟩
/-- The first place of the area with the least integer. -/
def argA (R : Nat → Int) (Y : Nat → Nat → Int) : Nat → Int
  | 0 => Y 0 0
  | k + 1 => if R (Y k 0).toNat - R (argA R Y k).toNat < 0 then Y k 0 else argA R Y k
theorem argA_in {R : Nat → Int} {Y : Nat → Nat → Int} : ∀ {k : Nat}, 1 ≤ k → ∃ i, i < k ∧ argA R Y k = Y i 0
  | 0, h => by omega
  | 1, _ => ⟨0, by omega, by
      show (if _ then Y 0 0 else argA R Y 0) = Y 0 0
      split <;> rfl⟩
  | k + 2, _ => by
      show ∃ i, i < k + 2 ∧ (if R (Y (k + 1) 0).toNat - R (argA R Y (k + 1)).toNat < 0 then Y (k + 1) 0 else argA R Y (k + 1)) = Y i 0
      split
      · exact ⟨k + 1, by omega, rfl⟩
      · obtain ⟨i, h1, h2⟩ := argA_in (R := R) (Y := Y) (k := k + 1) (by omega)
        exact ⟨i, by omega, h2⟩
theorem argA_min {R : Nat → Int} {Y : Nat → Nat → Int} : ∀ {k : Nat}, 1 ≤ k → R (argA R Y k).toNat = minA R Y k
  | 0, h => by omega
  | 1, _ => by
      show R (if R (Y 0 0).toNat - R (argA R Y 0).toNat < 0 then Y 0 0 else argA R Y 0).toNat = min (R (Y 0 0).toNat) (R (Y 0 0).toNat)
      rw [show (if R (Y 0 0).toNat - R (argA R Y 0).toNat < 0 then Y 0 0 else argA R Y 0) = Y 0 0 by split <;> rfl]
      omega
  | k + 2, _ => by
      have ih := argA_min (R := R) (Y := Y) (k := k + 1) (by omega)
      show R (if R (Y (k + 1) 0).toNat - R (argA R Y (k + 1)).toNat < 0 then Y (k + 1) 0 else argA R Y (k + 1)).toNat = min (minA R Y (k + 1)) (R (Y (k + 1) 0).toNat)
      split <;> omega
set_option maxHeartbeats 1000000 in
theorem lMinFunc_any (m c3 nr c bx : Nat) (ad3 adr : Option Addr) (R : Nat → Int) (Y : Nat → Nat → Int) (w : World) (hY : Rows 1 w (.slice ad3 m c3) m Y) (hm : 1 ≤ m) (hm2 : m ≤ 9223372036854775807) (hR : Rows 1 w (.slice adr nr c) nr (fun i _ => R i)) (hin : ∀ i, i < m → 0 ≤ Y i 0 ∧ Y i 0 < (nr : Int)) (bd : ∀ i, i < nr → -1000000000 ≤ R i ∧ R i ≤ 1000000000)
    (h1 : w.heap[bx]? = some (.cells #[.slice adr nr c] 28 (0, 0))) :
    Calls Try.prog 60 #[.slice ad3 m c3, .func (.func 61) #[] #[.pointer (some ⟨bx, 0, none⟩)]] w fun z w' => z = .returned (.int .i64 (argA R Y m)) ∧ Below w.heap.size w w' := by
  obtain ⟨g, o, rfl, hc0⟩ := hY.int (show 0 < m by omega)
  have HY := Lib.hid hY
  have HR := Lib.hid hR
  have HI := Lib.hid hin
  have BD := Lib.hid bd
  have H1 := Lib.hid h1
  have d1 : ¬ (m : Int) < 1 := by omega
  have d0 : (0 : Int) < (m : Int) := by omega
  have d2 : 0 < m := by omega
  clear hY hR hin bd h1
  simp only [Nat.add_zero] at hc0
  go_enter Try.func60, Try.ntmps60
  go_wp2_with fail
  clear hc0
  go_loopw [5, 6] (fun mv i wr => ∃ k : Nat, 1 ≤ k ∧ k ≤ m ∧ i = .int .i64 k ∧ mv = .int .i64 (argA R Y k) ∧ Below w.heap.size w wr) (fun _ i _ => m - (intOf i).toNat)
  case atStart => exact ⟨1, by omega, hm, rfl, by rw [show argA R Y 1 = Y 0 0 by show (if _ then Y 0 0 else argA R Y 0) = Y 0 0; split <;> rfl], Below.refl _ _⟩
  case round =>
    obtain ⟨k, hk1, hk, rfl, rfl, hb⟩ := hrel
    by_cases hlt : k < m
    rotate_left
    · obtain rfl : k = m := by omega
      go_wp2_with fail
      go_returns
      exact ⟨rfl, hb⟩
    obtain ⟨g', o', e', hc⟩ := HY.out.int hlt
    obtain ⟨rfl, rfl⟩ : g = g' ∧ o = o' := by simpa using e'
    have hc' := cell_later hb hc
    obtain ⟨y0, y1⟩ := HI.out k hlt
    obtain ⟨i, hi, he⟩ := argA_in (R := R) (Y := Y) hk1
    obtain ⟨z0, z1⟩ := HI.out i (by omega)
    have hk' : (R (Y k 0).toNat - R (argA R Y k).toNat < 0 → argA R Y (k + 1) = Y k 0) ∧ (0 ≤ R (Y k 0).toNat - R (argA R Y k).toNat → argA R Y (k + 1) = argA R Y k) := ⟨fun h => if_pos h, fun h => if_neg (by omega)⟩
    obtain ⟨p, hp⟩ : ∃ p : Nat, Y k 0 = (p : Int) := ⟨(Y k 0).toNat, by omega⟩
    obtain ⟨q, hq⟩ : ∃ q : Nat, argA R Y k = (q : Int) := ⟨(argA R Y k).toNat, by omega⟩
    rw [he] at hq
    rw [hp] at hc' y1 hk'
    rw [he, hq] at hk'
    rw [he, hq]
    simp only [Int.toNat_natCast] at hk'
    obtain ⟨r, hr⟩ : ∃ r, R p - R q = r := ⟨_, rfl⟩
    have CB := Lib.hid (hWorst1_any p q nr c bx adr R wr (HR.out.later hb) (by omega) (by omega) BD.out (block_later hb H1.out) hr)
    rw [hr] at hk'
    have HK := Lib.hid hk'
    clear hk' hc e' he hq hp hr z0 z1 y0
    go_wp2_with fail
    (with_reducible refine CB.out.mono ?_)
    rintro e w1 ⟨rfl, hb1⟩
    have hB1 := below_step hb hb1
    have hc1 := cell_later hb1 hc'
    clear CB
    by_cases hr0 : r < 0
    · go_wp2_with fail
      go_roundw
      case rel => exact ⟨k + 1, by omega, by omega, by go_num, by rw [HK.out.1 hr0], hB1⟩
      case measure => simp [intOf]; omega
    · have hr1 : 0 ≤ r := by omega
      go_wp2_with fail
      go_roundw
      case rel => exact ⟨k + 1, by omega, by omega, by go_num, by rw [HK.out.2 hr1], hB1⟩
      case measure => simp [intOf]; omega
/-- What Worst leaves: an error, or the least integer with a track. -/
def WorstP (np : Nat) (X : Nat → Nat → Int) (ne : Nat) (E : Nat → Nat → Int) (na : Nat) (A : Nat → Nat → Int) (m : Nat) (Y : Nat → Nat → Int) (f u : Int) (w : World) (z : Ending) (w' : World) : Prop :=
  Below w.heap.size w w' ∧ ∃ v, z = .returned (.tuple #[.int .i64 (worstQ np X ne E na A m Y f u).1, v, .int .i64 (worstQ np X ne E na A m Y f u).2]) ∧
    ((TblOk np X ne E na A f u ∧ AreaOk np m Y ∧ 1 ≤ m) ∨ v = .slice none 0 0) ∧
    (TblOk np X ne E na A f u ∧ AreaOk np m Y ∧ 1 ≤ m → ∃ p b : Nat, u - f = (b : Int) ∧ p < np ∧ (∃ i, i < m ∧ Y i 0 = (p : Int)) ∧ (worstQ np X ne E na A m Y f u).1 = tblI X A E na f u ne b p ∧
      Rows 2 w' v (((p : Int), u) :: trk X A E (tblI X A E na f u ne) na f ne (b + 1) b p).length (fun i j => pairX (((p : Int), u) :: trk X A E (tblI X A E na f u ne) na f ne (b + 1) b p) ((((p : Int), u) :: trk X A E (tblI X A E na f u ne) na f ne (b + 1) b p).length - 1 - i) j))
set_option maxRecDepth 100000 in
set_option maxHeartbeats 2000000 in
theorem hWorst_any (np c ne c2 na c4 m c3 : Nat) (ad ad2 ad4 ad3 : Option Addr) (X E A Y : Nat → Nat → Int) (f u : Int) (w : World) (hX : Rows 2 w (.slice ad np c) np X) (hE : Rows 4 w (.slice ad2 ne c2) ne E) (hA : Rows 4 w (.slice ad4 na c4) na A) (hY : Rows 1 w (.slice ad3 m c3) m Y) (hn1 : np ≤ 9223372036854775807) (hn2 : ne ≤ 9223372036854775807) (hn4 : na ≤ 9223372036854775807) (hn3 : m ≤ 9223372036854775807) :
    Calls Try.prog 25 #[.agg #[.slice ad np c, .slice ad2 ne c2], .slice ad4 na c4, .slice ad3 m c3, .int .i64 f, .int .i64 u] w (WorstP np X ne E na A m Y f u w) := by
  have HX := Lib.hid hX
  have HE := Lib.hid hE
  have HA := Lib.hid hA
  have HY := Lib.hid hY
  clear hX hE hA hY
  obtain ⟨va, gva⟩ : ∃ va, decide (AreaOk np m Y) = va := ⟨_, rfl⟩
  have VA := Lib.hid gva
  clear gva
  go_enter Try.func25, Try.ntmps25
  go_wp2_with fail
  refine calls_named fun W hW => ?_
  obtain ⟨p1, hB⟩ := box1 hW
  clear hW
  have hB0 := Below.refl W.heap.size W
  have P1 := Lib.hid p1
  have q1 := cellsL p1
  clear p1
  by_cases hok : TblOk np X ne E na A f u
  rotate_left
  · have NO := Lib.hid hok
    have RQ := Lib.hid (show worstQ np X ne E na A m Y f u = (0, 1) from if_neg (fun h => hok h.1))
    clear hok
    have no : ¬ (NetOk np X ne E ∧ AirsOk na A ∧ TimesOk f u) := NO.out
    (with_reducible refine (hTable_no _ _ _ _ _ _ _ _ _ _ _ _ _ _ _ (HX.out.later hB) (HE.out.later hB) (HA.out.later hB) hn1 hn2 hn4 no).mono ?_)
    rintro z w1 ⟨rfl, hb1⟩
    have hB1 := below_step hB0 hb1
    go_wp2_with fail
    go_ret3
    exact ⟨below_step hB hB1, .slice none 0 0, by rw [RQ.out]; rfl, .inr rfl, fun h => (NO.out h.1).elim⟩
  obtain ⟨g1, g2, g3⟩ := hok
  have G1 := Lib.hid g1
  have G2 := Lib.hid g2
  have G3 := Lib.hid g3
  obtain ⟨t1, t2, t3, t4⟩ := g3
  have np2 := g1.2.1
  have na4 := g2.1
  clear g1 g2
  (with_reducible refine (hTable_yes _ _ _ _ _ _ _ _ _ _ _ _ _ _ _ (HX.out.later hB) (HE.out.later hB) (HA.out.later hB) hn1 hn2 hn4 G1.out G2.out G3.out).mono ?_)
  rintro z w1 ⟨tv, rfl, hb1, htab⟩
  have hB1 := below_step hB0 hb1
  obtain ⟨n, hn⟩ : ∃ n, (u - f + 1).toNat = n := ⟨_, rfl⟩
  rw [hn] at htab
  have NN := Lib.hid hn
  clear hn
  obtain ⟨at', ct, rfl, htt, htn⟩ := htab.form
  have TT := Lib.hid htt
  clear htab htt
  go_wp2_with fail
  (with_reducible refine (hIsArea_any _ _ _ _ _ _ _ _ _ _ _ (HY.out.later (below_step hB hB1)) hn1 hn3 VA.out).mono ?_)
  rintro z w2 ⟨rfl, hb2⟩
  have hB2 := below_step hB1 hb2
  have TT2 := Lib.hid (TT.out.later hb2)
  clear hb2 TT
  cases va
  · have RQ := Lib.hid (show worstQ np X ne E na A m Y f u = (0, 1) from if_neg (fun h => of_decide_eq_false VA.out h.2))
    go_wp2_with fail
    go_ret3
    exact ⟨below_step hB hB2, .slice none 0 0, by rw [RQ.out]; rfl, .inr rfl, fun h => (of_decide_eq_false VA.out h.2.1).elim⟩
  have AR := Lib.hid (of_decide_eq_true VA.out)
  by_cases hm0 : m = 0
  · subst hm0
    have RQ := Lib.hid (show worstQ np X ne E na A 0 Y f u = (0, 4) by unfold worstQ; rw [if_pos ⟨⟨G1.out, G2.out, G3.out⟩, AR.out⟩, if_pos rfl])
    go_wp2_with fail
    go_ret3
    exact ⟨below_step hB hB2, .slice none 0 0, by rw [RQ.out]; rfl, .inr rfl, fun h => by omega⟩
  have dm : ((m : Int) == 0) = false := by simp; omega
  have m1 : 0 < m := by omega
  have RQ := Lib.hid (show worstQ np X ne E na A m Y f u = (minA (tblI X A E na f u ne (u - f).toNat) Y m, 0) by unfold worstQ; rw [if_pos ⟨⟨G1.out, G2.out, G3.out⟩, AR.out⟩, if_neg hm0])
  clear hm0
  obtain ⟨b, hb⟩ : ∃ b : Nat, u - f = (b : Int) := ⟨(u - f).toNat, by omega⟩
  have bn : b < n := by have := NN.out; omega
  have hnb : n = b + 1 := by have := NN.out; omega
  have NB := Lib.hid hnb
  obtain ⟨R, hR⟩ : ∃ R, tblI X A E na f u ne b = R := ⟨_, rfl⟩
  have RR := Lib.hid hR
  have htt := TT2.out
  obtain ⟨g, o, a, ca, rfl, hc, hl, hrow⟩ := htt.row bn
  have RW := Lib.hid hrow
  have RE : Hid (∀ j, tblN X A E na f ne n b j = R j) := Lib.hid (fun j => by rw [← hR]; unfold tblI; rw [NN.out])
  have jt : IntKind.i64.wrap (u - f) = (b : Int) := by rw [IntWalk.i64_in _ (by omega)]; exact hb
  have JT := Lib.hid jt
  have UF := Lib.hid hb
  have jbn : (b : Int) < (n : Int) := by omega
  clear hl hrow htt hb hR hnb
  go_wp2_with fail
  refine calls_named fun W3 hW3 => ?_
  obtain ⟨p3, hb3⟩ := box1 hW3
  clear hW3
  have hB3 := below_step hB2 hb3
  have m1' : 1 ≤ m := m1
  have INY := Lib.hid (show ∀ i, i < m → 0 ≤ Y i 0 ∧ Y i 0 < (np : Int) from fun i hi => (AR.out i hi).1)
  have bdR : ∀ i, i < np → -1000000000 ≤ R i ∧ R i ≤ 1000000000 := fun i _ => by
    rw [← RE.out i]
    have hb := tblN_bd X A E na f ne n b i
    have hm := Int.mul_le_mul (show (na : Int) ≤ 400 by omega) (show (b : Int) ≤ 401 by have := UF.out; omega) (by omega) (by omega)
    exact ⟨by omega, by omega⟩
  have hRW : Rows 1 w2 (.slice a np ca) np (fun j _ => R j) := by
    have h := RW.out
    rw [show (fun j (_ : Nat) => tblN X A E na f ne n b j) = fun j _ => R j by funext j _; exact RE.out j] at h
    exact h
  have BDR := Lib.hid bdR
  have HRW := Lib.hid hRW
  have L3 := Lib.hid p3
  clear bdR hRW RW p3 hc
  (with_reducible refine (lMinFunc_any m c3 np ca w2.heap.size ad3 a R Y W3 (HY.out.later (below_step hB hB3)) m1' hn3 (HRW.out.later hb3) INY.out BDR.out L3.out).mono ?_)
  rintro z w4 ⟨rfl, hb4⟩
  have hB4 := below_step hB3 hb4
  obtain ⟨i, hi, hai⟩ := argA_in (R := R) (Y := Y) (k := m) m1'
  obtain ⟨a1, a2⟩ := INY.out i hi
  obtain ⟨p, hp⟩ : ∃ p : Nat, Y i 0 = (p : Int) := ⟨(Y i 0).toNat, by omega⟩
  have hpn : p < np := by omega
  have AI := Lib.hid (show argA R Y m = (p : Int) by rw [hai, hp])
  have YI := Lib.hid hp
  have MIN := Lib.hid (show R p = minA R Y m by rw [← argA_min (R := R) (Y := Y) m1', AI.out, Int.toNat_natCast])
  rw [AI.out]
  clear hai hp a1 a2
  obtain ⟨g5, o5, rfl, hc5⟩ := HRW.out.int hpn
  have C5 := Lib.hid (cell_later (below_step hb3 hb4) hc5)
  have NET := Lib.hid (block_later hB4 P1.out)
  have LB := Lib.hid (block_later hb4 L3.out)
  have c1 := cell_block LB.out 0
  have c2' := C5.out
  have c3' := cell_block NET.out 0
  have c4' := cell_block NET.out 1
  have hBw4 := below_step hB hB4
  have TE : tblI X A E na f u ne = tblN X A E na f ne n := by unfold tblI; rw [NN.out]
  have T4 := Lib.hid (TT2.out.later (below_step (below_step (Below.refl _ _) hb3) hb4))
  have TRK := Lib.hid (fun (w5 : World) (b5 bs bu bf ba bn' clock : Nat) (hb5 : Below w4.heap.size w4 w5) (hW5 : Wat w5 ad ad2 ad4 np c ne c2 na c4 f u b5 bs bu bf ba bn') (hm5 : w5.heap[b5]? = some (.map #[] clock)) => hTrackM_any ad ad2 ad4 (some ⟨g, o, none⟩) np c ne c2 na c4 n ct X A E (tblI X A E na f u ne) (fun _ => np) f u p b (b + 2) (fun _ => False) b5 bs bu bf ba bn' w5 (by have := UF.out; omega) G1.out G2.out G3.out hpn (by have := UF.out; omega)
    (HX.out.later (below_step hBw4 hb5)) (HA.out.later (below_step hBw4 hb5)) (HE.out.later (below_step hBw4 hb5)) (by rw [TE]; exact T4.out.later hb5) (by omega)
    (fun u' hu' => ⟨rfl, fun j hj => by
      rw [TE]
      have hb := tblN_bd X A E na f ne n u' j
      have hm := Int.mul_le_mul (show (na : Int) ≤ 400 by omega) (show (u' : Int) ≤ 401 by have := UF.out; omega) (by omega) (by omega)
      exact ⟨by omega, by omega⟩⟩) hW5 ⟨#[], clock, hm5, fun e he => by simp at he⟩ (fun _ h => h.elim))
  clear TE
  obtain ⟨rp, hrp⟩ : ∃ rp, R p = rp := ⟨_, rfl⟩
  rw [hrp] at c2'
  have RP := Lib.hid hrp
  have jpn : (p : Int) < (np : Int) := by omega
  have jt := JT.out
  clear hc5 hb3 hb4 q1 hrp
  go_wp2_with fail
  go_region_held3 (fun w' => w'.cell? ⟨w2.heap.size, 0, none⟩ = some (.slice (some ⟨g5, o5, none⟩) np ca) ∧ w'.cell? ⟨g5, o5 + p, none⟩ = some (.int .i64 rp) ∧ w'.cell? ⟨w.heap.size, 0, none⟩ = some (.slice ad np c) ∧ w'.cell? ⟨w.heap.size, 1, none⟩ = some (.slice ad2 ne c2)) (first | exact ⟨by assumption, by assumption, by assumption, by assumption⟩ | go_keep)
    (first | (go_at_call 56; refine (hOver_any ad ad2 ad4 np c ne c2 na c4 f u _).mono ?_; rintro z w5 ⟨b5, bs, bu, bf, ba, bn', rfl, hb5, hbb, hW5, clock, hm5⟩; unfold waterV; have hb5 := ((Below.refl w4.heap.size w4).drew).trans hb5; have k1 := cell_later hb5 c1; have k2 := cell_later hb5 c2'; have k3 := cell_later hb5 c3'; have k4 := cell_later hb5 c4') | (go_at_call 62; refine (TRK.out _ _ _ _ _ _ _ _ hb5 hW5 hm5).mono ?_; rintro z w6 ⟨v6, rfl, hbes6, hs6, hr6⟩; have hb6 := hb5.trans (hbes6.below hbb hb5.size); have l1 := cell_later hb6 c1; have l2 := cell_later hb6 c2'; have l3 := cell_later hb6 c3'; have l4 := cell_later hb6 c4'))
  have UB : u = f + (b : Int) := by have := UF.out; omega
  have HR6 := Lib.hid hr6
  have HB6 := Lib.hid (below_step hB (below_step hB4 hb6))
  have VAL := Lib.hid (show minA (tblI X A E na f u ne (u - f).toNat) Y m = rp by
    rw [show (u - f).toNat = b by have := UF.out; omega, RR.out, ← MIN.out, RP.out])
  have HUB := Lib.hid UB
  clear hr6 hs6 UB k1 k2 k3 k4 l1 l2 l3 l4 c1 c2' c3' c4'
  go_wp2_with fail
  go_ret3
  refine ⟨HB6.out, v6, ?_, .inl ⟨⟨G1.out, G2.out, G3.out⟩, AR.out, m1'⟩, fun _ => ⟨p, b, UF.out, hpn, ⟨i, hi, YI.out⟩, ?_, ?_⟩⟩
  · rw [RQ.out, VAL.out]; rfl
  · rw [RQ.out]
    show minA _ Y m = _
    rw [VAL.out, RR.out, RP.out]
  · rw [HUB.out, ← HUB.out]
    have h := HR6.out
    rw [← HUB.out] at h
    exact h
end Go.Proofs.Ytcpnkhiillgffaa
