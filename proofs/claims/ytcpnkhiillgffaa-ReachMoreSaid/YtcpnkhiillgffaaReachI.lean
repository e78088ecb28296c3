/- The walk of the program's Count. -/
import Derived.Test.YtcpnkhiillgffaaReachH
namespace Go.Proofs.Ytcpnkhiillgffaa
open Go.RowKit
attribute [local go_sem] bqOp bqAll bqUpon
attribute [local irreducible] wpQuiet wpBQ
set_option linter.unusedVariables false
theorem hCount1_any (s0 s1 t x y r : Int) (b1 : Nat) (w : World) (h1 : w.heap[b1]? = some (.cells #[.int .i64 t, .int .i64 x, .int .i64 y, .int .i64 r] 41)) {v : Bool} (hv : decide (t < s1) = v) :
    Calls Try.prog 52 #[.agg #[.int .i64 s0, .int .i64 s1], .pointer (some ⟨b1, 0, none⟩)] w fun e w' => e = .returned (.bool v) ∧ Below w.heap.size w w' := by
  have l1 := lt_block h1
  have q1 := cellsL h1
  have hA := fun o => (Below.refl w.heap.size w).alloc (Nat.le_refl _) o
  have HV := Lib.hid hv
  clear hv h1
  go_enter Try.func52, Try.ntmps52
  go_wp2_with fail
  go_returns
  exact ⟨ret_bool HV.out, hA _⟩
theorem cntB_mid {X L A : Nat → Nat → Int} {nl : Nat} {s : Int} {k j p q : Nat} {v : Bool} (h : ¬ (A k 0 < max s (L 0 1) ∨ L (nl - 1) 1 ≤ A k 0)) (hf : fstI (fun j => decide (A k 0 < L j 1)) nl = ((j + 1 : Nat) : Int)) (hp : L j 0 = (p : Int))
    (hq : (if L j 1 = A k 0 then L j 0 else L (j + 1) 0) = (q : Int)) (hv : (hrB X (A k 1) (A k 2) (A k 3) p && hrB X (A k 1) (A k 2) (A k 3) q) = v) : cntB X L A nl s k = v := by
  unfold cntB
  rw [if_neg h, hf, Int.toNat_natCast, Nat.add_sub_cancel, hq, hp, Int.toNat_natCast, Int.toNat_natCast, hv]
theorem ifStop_any (n c : Nat) (ad : Option Addr) (b1 : Nat) (X : Nat → Nat → Int) (B : Nat → Bool) (w : World) (hR : Rows 2 w (.slice ad n c) n X) (hn : n ≤ 9223372036854775807)
    (hf : ∀ i, i < n → ∀ w', Below w.heap.size w w' → Calls Try.prog 52 #[.agg #[.int .i64 ((X i 0)), .int .i64 ((X i 1))], .pointer (some ⟨b1, 0, none⟩)] w' fun e w'' => e = .returned (.bool (B i)) ∧ Below w'.heap.size w' w'') {r : Int} (hr : fstI B n = r) :
    Calls Try.prog 51 #[.slice ad n c, .func (.func 52) #[] #[.pointer (some ⟨b1, 0, none⟩)]] w fun e w' => e = .returned (.int .i64 r) ∧ Below w.heap.size w w' := by
  have HR := Lib.hid hR
  have HF := Lib.hid hf
  have RR := Lib.hid hr
  clear hR hf hr
  go_enter Try.func51, Try.ntmps51
  go_wp2
  go_loopw [8] (fun i wr => ∃ k : Nat, k ≤ n ∧ i = .int .i64 k ∧ Below w.heap.size w wr ∧ ∀ m, m < k → B m = false) (fun i _ => n - (intOf i).toNat)
  case atStart => exact ⟨0, by omega, rfl, Below.refl _ _, fun m hm => by omega⟩
  case round =>
    obtain ⟨k, hk, rfl, hb, hall⟩ := hrel
    have ALL := Lib.hid hall
    clear hall
    by_cases hlt : k < n
    · obtain ⟨g, o, rfl, hc⟩ := HR.out.row hlt
      have c0 := cell_later hb (hc 0 (by omega))
      have c1 := cell_later hb (hc 1 (by omega))
      simp only [Nat.add_zero] at c0 
      clear hc
      obtain ⟨v, hv⟩ : ∃ v, B k = v := ⟨_, rfl⟩
      have F := Lib.hid (HF.out k hlt wr hb)
      rw [hv] at F
      have V := Lib.hid hv
      clear hv
      go_wp2_with fail
      (with_reducible refine F.out.mono ?_)
      rintro e w1 ⟨rfl, hb1⟩
      have hb2 := below_step hb hb1
      clear F hb1 c0 c1
      cases v
      · go_wp2_with fail
        go_roundw
        case rel => exact ⟨k + 1, by omega, by go_num, hb2, fun m hm => by
          rcases Nat.lt_or_ge m k with h | h
          · exact ALL.out m h
          · obtain rfl : m = k := by omega
            exact V.out⟩
        case measure => simp [intOf]; omega
      · go_wp2_with fail
        go_returns
        exact ⟨ret_int (by rw [← RR.out]; exact (fstI_at hlt ALL.out V.out).symm), hb2⟩
    · obtain rfl : k = n := by omega
      go_wp2_with fail
      go_returns
      exact ⟨ret_int (by rw [← RR.out]; exact (fstI_none ALL.out).symm), hb⟩
set_option maxHeartbeats 4000000 in
theorem hCount_any (np c ne c2 na c4 nl c3 : Nat) (ad ad2 ad4 ad3 : Option Addr) (X E A L : Nat → Nat → Int) (s : Int) (w : World) (hX : Rows 2 w (.slice ad np c) np X) (hE : Rows 4 w (.slice ad2 ne c2) ne E) (hA : Rows 4 w (.slice ad4 na c4) na A) (hL : Rows 2 w (.slice ad3 nl c3) nl L) (hn1 : np ≤ 9223372036854775807) (hn2 : ne ≤ 9223372036854775807) (hn3 : nl ≤ 9223372036854775807) (hn4 : na ≤ 9223372036854775807) {v e : Int} (hr : countR np X ne E nl L na A s = (v, e)) :
    Calls Try.prog 20 #[.agg #[.slice ad np c, .slice ad2 ne c2], .slice ad4 na c4, .slice ad3 nl c3, .int .i64 s] w fun z w' => z = .returned (.tuple #[.int .i64 v, .int .i64 e]) ∧ Below w.heap.size w w' := by
  unfold countR at hr
  have HX := Lib.hid hX
  have HE := Lib.hid hE
  have HA := Lib.hid hA
  have HL := Lib.hid hL
  have RR := Lib.hid hr
  clear hX hE hA hL hr
  obtain ⟨v1, gv1⟩ : ∃ v1, decide (TrackOk np X ne E nl L) = v1 := ⟨_, rfl⟩
  have V1 := Lib.hid gv1
  clear gv1
  obtain ⟨v2, gv2⟩ : ∃ v2, decide (AirsOk na A) = v2 := ⟨_, rfl⟩
  have V2 := Lib.hid gv2
  clear gv2
  go_enter Try.func20, Try.ntmps20
  go_wp2_with fail
  refine calls_named fun W hW => ?_
  obtain ⟨p1, hB⟩ := box1 hW
  clear hW
  have q1 := cellsL p1
  have hB0 := Below.refl W.heap.size W
  have P1 := Lib.hid p1
  clear p1
  (with_reducible refine (hTrack_any _ _ _ _ _ _ _ _ _ _ _ _ _ (HX.out.later hB) (HE.out.later hB) (HL.out.later hB) hn1 hn2 hn3 V1.out).mono ?_)
  rintro e w1 ⟨rfl, hb1⟩
  have hB1 := below_step hB0 hb1
  cases v1
  · have h := RR.out
    rw [if_neg (fun h => of_decide_eq_false V1.out h.1)] at h
    cases h
    clear RR
    go_wp2_with fail
    go_ret2
    exact ⟨rfl, below_step hB hB1⟩
  go_wp2_with fail
  (with_reducible refine (hAreAirs_any _ _ _ _ _ (HA.out.later (below_step hB hB1)) hn4 V2.out).mono ?_)
  rintro e w2 ⟨rfl, hb2⟩
  have hB2 := below_step hB1 hb2
  cases v2
  · have h := RR.out
    rw [if_neg (fun h => of_decide_eq_false V2.out h.2.1)] at h
    cases h
    clear RR
    go_wp2_with fail
    go_ret2
    exact ⟨rfl, below_step hB hB2⟩
  by_cases h3 : s < 0
  · have h := RR.out
    rw [if_neg (fun h => by have := h.2.2.1; omega)] at h
    cases h
    clear RR
    go_wp2_with fail
    go_ret2
    exact ⟨rfl, below_step hB hB2⟩
  have d3 : decide (s < 0) = false := by simp; omega
  have n3 : 0 ≤ s := by omega
  clear h3
  by_cases h4 : 10000000 < s
  · have h := RR.out
    rw [if_neg (fun h => by have := h.2.2.2; omega)] at h
    cases h
    clear RR
    go_wp2_with fail
    go_ret2
    exact ⟨rfl, below_step hB hB2⟩
  have d4 : decide (10000000 < s) = false := by simp; omega
  have n4 : s ≤ 10000000 := by omega
  clear h4
  have g1 := of_decide_eq_true V1.out
  have g2 := of_decide_eq_true V2.out
  have h := RR.out
  rw [if_pos ⟨g1, g2, n3, n4⟩] at h
  cases h
  clear RR
  have G1 := Lib.hid g1
  have G2 := Lib.hid g2
  have nl1 := g1.2.1
  have nl2 := g1.2.2.1
  have na4 := g2.1
  clear g1 g2
  obtain ⟨gl, ol, rfl, hcl0⟩ := HL.out.row (show 0 < nl by omega)
  have F1 := Lib.hid (hcl0 1 (by omega))
  obtain ⟨gl', ol', hgl', hcl1⟩ := HL.out.row (show nl - 1 < nl by omega)
  obtain ⟨rfl, rfl⟩ : gl = gl' ∧ ol = ol' := by simpa using hgl'
  have Z1 := Lib.hid (hcl1 1 (by omega))
  clear hcl0 hcl1 hgl'
  have S0 := G1.out.2.2.2.1 0 (by omega)
  have S9 := G1.out.2.2.2.1 (nl - 1) (by omega)
  obtain ⟨-, f1, f2⟩ := S0
  obtain ⟨-, l1, l2⟩ := S9
  obtain ⟨tf, htf⟩ : ∃ tf, L 0 1 = tf := ⟨_, rfl⟩
  obtain ⟨tl, htl⟩ : ∃ tl, L (nl - 1) 1 = tl := ⟨_, rfl⟩
  rw [htf] at f1 f2 F1
  rw [htl] at l1 l2 Z1
  have TF := Lib.hid htf
  have TL := Lib.hid htl
  clear htf htl
  go_wp2_with fail
  clear q1
  go_loopw [10, 34] (fun o i wr => ∃ k : Nat, k ≤ na ∧ i = .int .i64 k ∧ o = .int .i64 (cntN (cntB X L A nl s) k) ∧ Below W.heap.size W wr) (fun _ i _ => na - (intOf i).toNat)
  case atStart => exact ⟨0, by omega, rfl, rfl, hB2⟩
  case round =>
    obtain ⟨k, hk, rfl, rfl, hbr⟩ := hrel
    have bd := cntN_bd (cntB X L A nl s) k
    obtain ⟨cc, hcc⟩ : ∃ cc, cntN (cntB X L A nl s) k = cc := ⟨_, rfl⟩
    rw [hcc] at bd
    rw [hcc]
    have CC := Lib.hid hcc
    clear hcc
    by_cases hlt : k < na
    rotate_left
    · obtain rfl : k = na := by omega
      go_wp2_with fail
      go_ret2
      exact ⟨ret_tup2 (by rw [CC.out]) rfl, below_step hB hbr⟩
    obtain ⟨g, o, rfl, hc⟩ := HA.out.row hlt
    have c0 := cell_later (below_step hB hbr) (hc 0 (by omega))
    have c1 := cell_later (below_step hB hbr) (hc 1 (by omega))
    have c2' := cell_later (below_step hB hbr) (hc 2 (by omega))
    have c3' := cell_later (below_step hB hbr) (hc 3 (by omega))
    simp only [Nat.add_zero] at c0
    have AK := G2.out.2 k hlt
    have AH := Lib.hid AK
    obtain ⟨-, -, -, t0, t1⟩ := AK
    clear hc
    go_upto_region 7 with (fail)
    refine wp_named fun y hy => ?_
    obtain ⟨pe, hby⟩ := box1 hy
    have hBy := below_step hbr hby
    clear hy c0 c1 c2' c3'
    have PE := Lib.hid pe
    clear pe
    obtain ⟨bb, hbb⟩ : ∃ bb, decide (A k 0 < max s (L 0 1) ∨ L (nl - 1) 1 ≤ A k 0) = bb := ⟨_, rfl⟩
    have BB := Lib.hid hbb
    clear hbb
    go_cut [58] from 38 to 58 (fun z wx => z = .bool bb ∧ Below y.heap.size y wx)
    case first =>
      have q1 := cellsR PE.out
      have c0 := fun d os => cell_later (below_regrown y d os) (cell_later (below_step hB hBy) F1.out)
      have c1 := fun d os => cell_later (below_regrown y d os) (cell_later (below_step hB hBy) Z1.out)
      have jn : ((nl : Int) - 1).toNat = nl - 1 := by omega
      have jw : IntKind.i64.wrap ((nl : Int) - 1) = (nl : Int) - 1 := IntWalk.i64_in _ (by omega)
      have jl : (nl : Int) - 1 < (nl : Int) := by omega
      have jp : 0 ≤ (nl : Int) - 1 := by omega
      have jp' : (1 : Int) ≤ (nl : Int) := by omega
      have jln : nl - 1 < nl := by omega
      have j0 : 0 < nl := by omega
      have j0' : (0 : Int) < (nl : Int) := by omega
      simp only [Nat.zero_mul, Nat.add_zero] at c0
      rcases Int.lt_or_le s tf with x1 | x1
      · have dx : decide (s < tf) = true := by simp [x1]
        by_cases h1 : A k 0 < tf
        · have BT : bb = true := by rw [← BB.out, TF.out, TL.out]; exact decide_eq_true (.inl (by omega))
          subst BT
          (refine wp_region_quiet_below (by kernel_rfl) (by kernel_rfl) ?_; (repeat (refine wpQuiet_step (fun K hK => ?_); replace hK := Lib.hid hK; go_simp; first | (refine hK.out _ ?_; clear hK K) | (apply Exists.intro; refine ⟨fun _ => ?_, hK.out _ ?_⟩; (fail); clear hK K))); refine wpQuiet_nil ?_)
          intro w3 hr3
          have hB3 := regrown_below hr3
          clear hr3 q1 c0 c1 jn jw
          go_wp2_with fail
          go_meet
          exact ⟨rfl, hB3⟩
        have d1 : decide (A k 0 < tf) = false := by simp; omega
        by_cases h2 : tl ≤ A k 0
        · have BT : bb = true := by rw [← BB.out, TF.out, TL.out]; exact decide_eq_true (.inr h2)
          subst BT
          (refine wp_region_quiet_below (by kernel_rfl) (by kernel_rfl) ?_; (repeat (refine wpQuiet_step (fun K hK => ?_); replace hK := Lib.hid hK; go_simp; first | (refine hK.out _ ?_; clear hK K) | (apply Exists.intro; refine ⟨fun _ => ?_, hK.out _ ?_⟩; (fail); clear hK K))); refine wpQuiet_nil ?_)
          intro w3 hr3
          have hB3 := regrown_below hr3
          clear hr3 q1 c0 c1 jn jw
          go_wp2_with fail
          go_meet
          exact ⟨rfl, hB3⟩
        have d2 : decide (tl ≤ A k 0) = false := by simp; omega
        have BT : bb = false := by rw [← BB.out, TF.out, TL.out]; exact decide_eq_false (by omega)
        subst BT
        (refine wp_region_quiet_below (by kernel_rfl) (by kernel_rfl) ?_; (repeat (refine wpQuiet_step (fun K hK => ?_); replace hK := Lib.hid hK; go_simp; first | (refine hK.out _ ?_; clear hK K) | (apply Exists.intro; refine ⟨fun _ => ?_, hK.out _ ?_⟩; (fail); clear hK K))); refine wpQuiet_nil ?_)
        intro w3 hr3
        have hB3 := regrown_below hr3
        clear hr3 q1 c0 c1 jn jw
        go_wp2_with fail
        go_meet
        exact ⟨rfl, hB3⟩
      · have dx : decide (s < tf) = false := by simp; omega
        have nx : ¬ s < tf := by omega
        by_cases h1 : A k 0 < s
        · have BT : bb = true := by rw [← BB.out, TF.out, TL.out]; exact decide_eq_true (.inl (by omega))
          subst BT
          (refine wp_region_quiet_below (by kernel_rfl) (by kernel_rfl) ?_; (repeat (refine wpQuiet_step (fun K hK => ?_); replace hK := Lib.hid hK; go_simp; first | (refine hK.out _ ?_; clear hK K) | (apply Exists.intro; refine ⟨fun _ => ?_, hK.out _ ?_⟩; (fail); clear hK K))); refine wpQuiet_nil ?_)
          intro w3 hr3
          have hB3 := regrown_below hr3
          clear hr3 q1 c0 c1 jn jw
          go_wp2_with fail
          go_meet
          exact ⟨rfl, hB3⟩
        have d1 : decide (A k 0 < s) = false := by simp; omega
        by_cases h2 : tl ≤ A k 0
        · have BT : bb = true := by rw [← BB.out, TF.out, TL.out]; exact decide_eq_true (.inr h2)
          subst BT
          (refine wp_region_quiet_below (by kernel_rfl) (by kernel_rfl) ?_; (repeat (refine wpQuiet_step (fun K hK => ?_); replace hK := Lib.hid hK; go_simp; first | (refine hK.out _ ?_; clear hK K) | (apply Exists.intro; refine ⟨fun _ => ?_, hK.out _ ?_⟩; (fail); clear hK K))); refine wpQuiet_nil ?_)
          intro w3 hr3
          have hB3 := regrown_below hr3
          clear hr3 q1 c0 c1 jn jw
          go_wp2_with fail
          go_meet
          exact ⟨rfl, hB3⟩
        have d2 : decide (tl ≤ A k 0) = false := by simp; omega
        have BT : bb = false := by rw [← BB.out, TF.out, TL.out]; exact decide_eq_false (by omega)
        subst BT
        (refine wp_region_quiet_below (by kernel_rfl) (by kernel_rfl) ?_; (repeat (refine wpQuiet_step (fun K hK => ?_); replace hK := Lib.hid hK; go_simp; first | (refine hK.out _ ?_; clear hK K) | (apply Exists.intro; refine ⟨fun _ => ?_, hK.out _ ?_⟩; (fail); clear hK K))); refine wpQuiet_nil ?_)
        intro w3 hr3
        have hB3 := regrown_below hr3
        clear hr3 q1 c0 c1 jn jw
        go_wp2_with fail
        go_meet
        exact ⟨rfl, hB3⟩
    case rest =>
      obtain ⟨rfl, hBc⟩ := hcut
      have hB3 := below_step hBy hBc
      cases bb
      rotate_left
      · have CB : Hid (cntB X L A nl s k = false) := Lib.hid (by unfold cntB; rw [if_pos (of_decide_eq_true BB.out)])
        go_wp2_with fail
        go_roundw
        case rel => exact ⟨k + 1, by omega, by go_num, by rw [cntN_no CB.out, CC.out], hB3⟩
        case measure => simp [intOf]; omega
      have nb := of_decide_eq_false BB.out
      have hmid := fst_mid (B := fun j => decide (A k 0 < L j 1)) (n := nl) (by
        have := TF.out
        simp
        rw [this]
        rw [this] at nb
        omega) (by
        simp
        omega)
      obtain ⟨j, hj, hfj⟩ := hmid
      have FJ := Lib.hid hfj
      have NB := Lib.hid nb
      clear hfj nb
      obtain ⟨gj, oj, hgj, hcj⟩ := HL.out.row (show j < nl by omega)
      obtain ⟨rfl, rfl⟩ : gl = gj ∧ ol = oj := by simpa using hgj
      obtain ⟨gk, ok, hgk, hck⟩ := HL.out.row hj
      obtain ⟨rfl, rfl⟩ : gl = gk ∧ ol = ok := by simpa using hgk
      have SJ := G1.out.2.2.2.1 j (by omega)
      have SK := G1.out.2.2.2.1 (j + 1) hj
      obtain ⟨⟨a1, a2⟩, a3, a4⟩ := SJ
      obtain ⟨⟨a5, a6⟩, a7, a8⟩ := SK
      obtain ⟨p, hp⟩ : ∃ p : Nat, L j 0 = (p : Int) := ⟨(L j 0).toNat, by omega⟩
      obtain ⟨q, hq⟩ : ∃ q : Nat, L (j + 1) 0 = (q : Int) := ⟨(L (j + 1) 0).toNat, by omega⟩
      have z0 := hcj 0 (by omega)
      have z2 := hck 0 (by omega)
      rw [hp] at z0 a2
      rw [hq] at z2 a6
      have pl : p < np := by omega
      have ql : q < np := by omega
      have C0 := Lib.hid z0
      have C1 := Lib.hid (hcj 1 (by omega))
      have C2 := Lib.hid z2
      have HP := Lib.hid hp
      have HQ := Lib.hid hq
      clear hcj hck hgj hgk z0 z2 hp hq a1 a2 a5 a6
      have IS := Lib.hid (ifStop_any nl c3 (some ⟨gl, ol, none⟩) wr.heap.size L (fun j => decide (A k 0 < L j 1)) wc (HL.out.later (below_step hB hB3)) hn3 (fun i hi w'' hb' => hCount1_any _ _ _ _ _ _ _ w'' (block_later (below_step hBc hb') PE.out) rfl) FJ.out)
      have jp : 0 ≤ (j : Int) + 1 := by omega
      have jl : (j : Int) + 1 < (nl : Int) := by omega
      have jli : (j : Int) < (nl : Int) := by omega
      have jln : j < nl := by omega
      go_wp2_with fail
      (with_reducible refine IS.out.mono ?_)
      rintro e w4 ⟨rfl, hb4⟩
      have hBd := below_step hBc hb4
      have hB4 := below_step hB3 hb4
      have c5 := cell_later (below_step hB hB4) C2.out
      simp only [Nat.add_zero] at c5
      clear IS
      go_wp2_with fail
      clear c5
      have q1 := cellsR (block_later hBd PE.out)
      have c1 := fun d os => cell_later (below_regrown w4 d os) (cell_later (below_step hB hB4) C1.out)
      have js : IntKind.i64.wrap (j : Int) = (j : Int) := IntWalk.i64_in _ (by omega)
      (refine wp_region_quiet_below (by kernel_rfl) (by kernel_rfl) ?_; (repeat (refine wpQuiet_step (fun K hK => ?_); replace hK := Lib.hid hK; go_simp; first | (refine hK.out _ ?_; clear hK K) | (apply Exists.intro; refine ⟨fun _ => ?_, hK.out _ ?_⟩; (fail); clear hK K))); refine wpQuiet_nil ?_)
      intro w5 hr5
      have hBe := below_step hBd (regrown_below hr5)
      have hB5 := below_step hB4 (regrown_below hr5)
      clear hr5 q1 c1 js
      have c0 := cell_later (below_step hB hB5) C0.out
      simp only [Nat.add_zero] at c0
      by_cases heq : L j 1 = A k 0
      · have dq : (L j 1 == A k 0) = true := by simp [heq]
        have HE2 := Lib.hid heq
        clear heq
        obtain ⟨v, hv⟩ : ∃ v, (hrB X (A k 1) (A k 2) (A k 3) p && hrB X (A k 1) (A k 2) (A k 3) p) = v := ⟨_, rfl⟩
        have CB := Lib.hid (cntB_mid NB.out FJ.out HP.out (q := p) (by rw [if_pos HE2.out]; exact HP.out) hv)
        have CF := Lib.hid (fun w' hb => hhears_any np c ne c2 ad ad2 X (A k 0) (A k 1) (A k 2) (A k 3) p p w' (HX.out.later (below_step hB hb)) hn1 pl pl (G1.out.1.2.2.2.1 p pl) (G1.out.1.2.2.2.1 p pl) AH.out hv)
        clear hv
        go_wp2_with fail
        clear c0
        have q1 := cellsR (block_later hBe PE.out)
        have q2 := cellsR (block_later hB5 P1.out)
        have c0 := fun d os => cell_later (below_regrown w5 d os) (cell_later (below_step hB hB5) C0.out)
        simp only [Nat.add_zero] at c0
        have js : IntKind.i64.wrap (j : Int) = (j : Int) := IntWalk.i64_in _ (by omega)
        (refine wp_region_quiet_below (by kernel_rfl) (by kernel_rfl) ?_; (repeat (refine wpQuiet_step (fun K hK => ?_); replace hK := Lib.hid hK; go_simp; first | (refine hK.out _ ?_; clear hK K) | (apply Exists.intro; refine ⟨fun _ => ?_, hK.out _ ?_⟩; ((go_at_call 48; exact Calls.regrown_of (CF.out _ (below_step hB5 (below_regrown _ _ _))))); clear hK K))); refine wpQuiet_nil ?_)
        intro w6 hr6
        have hB6 := below_step hB5 (regrown_below hr6)
        clear hr6 q1 q2 c0 js CF
        cases v
        · go_wp2_with fail
          go_roundw
          case rel => exact ⟨k + 1, by omega, by go_num, by rw [cntN_no CB.out, CC.out], hB6⟩
          case measure => simp [intOf]; omega
        · go_wp2_with fail
          go_roundw
          case rel => exact ⟨k + 1, by omega, by go_num, by rw [cntN_yes CB.out, CC.out], hB6⟩
          case measure => simp [intOf]; omega
      have dq : (L j 1 == A k 0) = false := by simp [heq]
      have HE2 := Lib.hid heq
      clear heq
      obtain ⟨v, hv⟩ : ∃ v, (hrB X (A k 1) (A k 2) (A k 3) p && hrB X (A k 1) (A k 2) (A k 3) q) = v := ⟨_, rfl⟩
      have CB := Lib.hid (cntB_mid NB.out FJ.out HP.out (q := q) (by rw [if_neg HE2.out]; exact HQ.out) hv)
      have CF := Lib.hid (fun w' hb => hhears_any np c ne c2 ad ad2 X (A k 0) (A k 1) (A k 2) (A k 3) p q w' (HX.out.later (below_step hB hb)) hn1 pl ql (G1.out.1.2.2.2.1 p pl) (G1.out.1.2.2.2.1 q ql) AH.out hv)
      clear hv
      go_wp2_with fail
      clear c0
      have q1 := cellsR (block_later hBe PE.out)
      have q2 := cellsR (block_later hB5 P1.out)
      have c0 := fun d os => cell_later (below_regrown w5 d os) (cell_later (below_step hB hB5) C0.out)
      simp only [Nat.add_zero] at c0
      have js : IntKind.i64.wrap (j : Int) = (j : Int) := IntWalk.i64_in _ (by omega)
      (refine wp_region_quiet_below (by kernel_rfl) (by kernel_rfl) ?_; (repeat (refine wpQuiet_step (fun K hK => ?_); replace hK := Lib.hid hK; go_simp; first | (refine hK.out _ ?_; clear hK K) | (apply Exists.intro; refine ⟨fun _ => ?_, hK.out _ ?_⟩; ((go_at_call 48; exact Calls.regrown_of (CF.out _ (below_step hB5 (below_regrown _ _ _))))); clear hK K))); refine wpQuiet_nil ?_)
      intro w6 hr6
      have hB6 := below_step hB5 (regrown_below hr6)
      clear hr6 q1 q2 c0 js CF
      cases v
      · go_wp2_with fail
        go_roundw
        case rel => exact ⟨k + 1, by omega, by go_num, by rw [cntN_no CB.out, CC.out], hB6⟩
        case measure => simp [intOf]; omega
      · go_wp2_with fail
        go_roundw
        case rel => exact ⟨k + 1, by omega, by go_num, by rw [cntN_yes CB.out, CC.out], hB6⟩
        case measure => simp [intOf]; omega
end Go.Proofs.Ytcpnkhiillgffaa
