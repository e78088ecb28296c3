/- The walk of the reference's Bound: the greatest integer that a table that bounds can have. -/
import Derived.Test.YtcpnkhiillgffaaReachH
import Derived.Test.YtcpnkhiillgffaaReachK
namespace Go.Proofs.Ytcpnkhiillgffaa
open Go.RowKit
attribute [local go_sem] bqOp bqAll bqUpon
attribute [local irreducible] wpQuiet wpBQ
set_option linter.unusedVariables false
section
variable (X A E T : Nat → Nat → Int) (na : Nat) (f t : Int) (p : Nat)
/-- What a ship has heard that comes from the place q by d minutes. -/
def sailI (q : Int) (d : Int) : Int := T (t - d).toNat q.toNat + wayI X A na q (f + t - d) (p : Int) (f + t) f
def innerI (q d0 cur : Int) : Nat → Int
  | 0 => cur
  | m + 1 => min (innerI q d0 cur m) (sailI X A T na f t p q (d0 + (m : Int)))
def edgeI (k : Nat) (cur : Int) : Int :=
  if E k 1 = (p : Int) then
    (if t < E k 3 then min (innerI X A T na f t p (E k 0) (E k 2) cur (min (E k 3) t - E k 2 + 1).toNat) (cntN (btwB X A (E k 0).toNat p f (f + t)) na)
     else innerI X A T na f t p (E k 0) (E k 2) cur (min (E k 3) t - E k 2 + 1).toNat)
  else cur
def edgesI (base : Int) : Nat → Int
  | 0 => base
  | k + 1 => edgeI X A E T na f t p k (edgesI base k)
def boundI (ne : Nat) : Int := if t = 0 then 0 else edgesI X A E T na f t p (T (t - 1).toNat p + cntN (btwB X A p p (f + t - 1) (f + t)) na) ne
end
def RowsOk (np : Nat) (t : Int) (len : Nat → Nat) (T : Nat → Nat → Int) : Prop := ∀ u : Nat, (u : Int) < t → len u = np ∧ ∀ j, j < np → -1000000 ≤ T u j ∧ T u j ≤ 1000000
set_option maxRecDepth 100000 in
set_option maxHeartbeats 4000000 in
theorem q33Bound_any (np c ne c2 na c4 nt ct : Nat) (ad ad2 ad4 adt : Option Addr) (X E A T : Nat → Nat → Int) (len : Nat → Nat) (f t : Int) (p : Nat) (w : World) (hX : Rows 2 w (.slice ad np c) np X) (hE : Rows 4 w (.slice ad2 ne c2) ne E) (hA : Rows 4 w (.slice ad4 na c4) na A)
    (hT : Tab w (.slice adt nt ct) nt len T) (hN : NetOk np X ne E) (ha : AirsOk na A) (hp : p < np) (f0 : 0 ≤ f) (t0 : 0 ≤ t) (t4 : t ≤ 400) (ft4 : f + t ≤ 10000000) (hnt : t ≤ (nt : Int)) (ht : RowsOk np t len T) (hn1 : np ≤ 9223372036854775807) (hn2 : ne ≤ 9223372036854775807) (hnt2 : nt ≤ 9223372036854775807) {r : Int} (hr : boundI X A E T na f t p ne = r) :
    Calls Try.prog 58 #[.agg #[.slice ad np c, .slice ad2 ne c2], .slice ad4 na c4, .int .i64 f, .slice adt nt ct, .int .i64 t, .int .i64 (p : Int)] w fun e w' => e = .returned (.int .i64 r) ∧ -1000000 ≤ r ∧ r ≤ 1000400 ∧ Below w.heap.size w w' := by
  have HX := Lib.hid hX
  have HE := Lib.hid hE
  have HA := Lib.hid hA
  have HT := Lib.hid hT
  have HN := Lib.hid hN
  have VA := Lib.hid ha
  have RO := Lib.hid ht
  have RR := Lib.hid hr
  have na4 : na ≤ 400 := ha.1
  clear hX hE hA hT hN ha ht hr
  by_cases h0 : t = 0
  · subst h0
    have e0 : r = 0 := by rw [← RR.out]; unfold boundI; simp
    subst e0
    clear RR
    go_enter Try.func58, Try.ntmps58
    go_wp2_with fail
    go_returns
    exact ⟨rfl, by omega, by omega, by go_grown⟩
  have d0 : (t == 0) = false := by simp [h0]
  have t1 : 1 ≤ t := by omega
  have R1 : Hid (edgesI X A E T na f t p (T (t - 1).toNat p + cntN (btwB X A p p (f + t - 1) (f + t)) na) ne = r) := Lib.hid (by rw [← RR.out]; unfold boundI; rw [if_neg h0])
  clear RR h0
  obtain ⟨u, hu⟩ : ∃ u : Nat, t - 1 = (u : Int) := ⟨(t - 1).toNat, by omega⟩
  have ul : u < nt := by omega
  obtain ⟨lu, tu⟩ := RO.out u (by omega)
  obtain ⟨g, o, a, ca, rfl, hc, hl, hrow⟩ := HT.out.row ul
  rw [lu] at hc hl hrow
  obtain ⟨g2, o2, rfl, hc2⟩ := hrow.int hp
  have C1 := Lib.hid hc
  have C2 := Lib.hid hc2
  obtain ⟨tv, htv⟩ : ∃ tv, T u p = tv := ⟨_, rfl⟩
  have tb := tu p hp
  rw [htv] at C2 tb
  obtain ⟨ft, hft⟩ : ∃ ft, f + t = ft := ⟨_, rfl⟩
  obtain ⟨ft1, hft1⟩ : ∃ ft1, f + t - 1 = ft1 := ⟨_, rfl⟩
  obtain ⟨b, hb⟩ : ∃ b, cntN (btwB X A p p ft1 ft) na = b := ⟨_, rfl⟩
  have bb := cntN_bd (btwB X A p p ft1 ft) na
  rw [hb] at bb
  have CB := Lib.hid (fun w' hw => q33Between_any np c ne c2 na c4 ad ad2 ad4 X A p p ft1 ft w' (HX.out.later hw) (HA.out.later hw) hn1 HN.out.2.2.2.1 VA.out hp hp hb)
  have B0 : Hid (T (t - 1).toNat p + cntN (btwB X A p p (f + t - 1) (f + t)) na = tv + b) := Lib.hid (by rw [hft1, hft, hb, hu, Int.toNat_natCast, htv])
  have U := Lib.hid hu
  have FT := Lib.hid hft
  have tb1 := tb.1
  have tb2 := tb.2
  have bb1 := bb.1
  have bb2 : b ≤ 400 := by omega
  have ftb : ft ≤ 10000000 := by omega
  have ftc : 1 ≤ ft := by omega
  have jw1 : IntKind.i64.wrap (f + t) = ft := by rw [IntWalk.i64_in _ (by omega)]; exact hft
  have jw2 : IntKind.i64.wrap (ft - 1) = ft1 := by rw [IntWalk.i64_in _ (by omega)]; omega
  have jw3 : IntKind.i64.wrap (t - 1) = (u : Int) := by rw [IntWalk.i64_in _ (by omega)]; exact hu
  have jw4 : IntKind.i64.wrap (tv + b) = tv + b := IntWalk.i64_in _ (by omega)
  have jli : (u : Int) < (nt : Int) := by omega
  have jpl : (p : Int) < (np : Int) := by omega
  clear hc hc2 hl hrow lu tu htv hb hu hft hft1 tb bb
  go_enter Try.func58, Try.ntmps58
  go_wp2_with fail
  refine wp_named fun W hW => ?_
  obtain ⟨p1, hB⟩ := box1 hW
  clear hW
  have P1 := Lib.hid p1
  have q1 := cellsR p1
  clear p1
  have c1 := fun d os => cell_later (below_regrown W d os) (cell_later hB C1.out)
  have c2' := fun d os => cell_later (below_regrown W d os) (cell_later hB C2.out)
  (refine wp_region_quiet_below (by kernel_rfl) (by kernel_rfl) ?_; (repeat (refine wpQuiet_step (fun K hK => ?_); replace hK := Lib.hid hK; go_simp; first | (refine hK.out _ ?_; clear hK K) | (apply Exists.intro; refine ⟨fun _ => ?_, hK.out _ ?_⟩; ((go_at_call 84; exact Calls.regrown_of (CB.out _ (below_step hB (below_regrown _ _ _))))); clear hK K))); refine wpQuiet_nil ?_)
  intro w1 hr1
  have hB1 := regrown_below hr1
  clear hr1 q1 c1 c2' jw1 jw2 jw3 jw4 CB
  obtain ⟨base, hbase⟩ : ∃ base, tv + b = base := ⟨_, rfl⟩
  have b0 : -1000000 ≤ base := by omega
  have b1 : base ≤ 1000400 := by omega
  rw [hbase]
  have BS : Hid (edgesI X A E T na f t p base ne = r) := Lib.hid (by rw [← R1.out, B0.out, hbase])
  clear hbase R1 B0
  go_wp2_with fail
  go_loopw [13, 14] (fun o i wr => ∃ (k : Nat) (cur : Int), k ≤ ne ∧ i = .int .i64 k ∧ o = .int .i64 cur ∧ cur = edgesI X A E T na f t p base k ∧ -1000000 ≤ cur ∧ cur ≤ 1000400 ∧ Below W.heap.size W wr) (fun _ i _ => ne - (intOf i).toNat)
  case atStart => exact ⟨0, base, by omega, rfl, rfl, rfl, b0, b1, hB1⟩
  case round =>
    obtain ⟨k, cur, hk, rfl, rfl, hcur, cu0, cu1, hbr⟩ := hrel
    have CU := Lib.hid hcur
    clear hcur
    have q1 := cellsL P1.out
    by_cases hlt : k < ne
    rotate_left
    · obtain rfl : k = ne := by omega
      go_wp2_with fail
      go_returns
      exact ⟨ret_int (by rw [CU.out, BS.out]), by rw [← BS.out, ← CU.out]; exact cu0, by rw [← BS.out, ← CU.out]; exact cu1, below_step hB hbr⟩
    obtain ⟨g3, o3, rfl, hc⟩ := HE.out.row hlt
    have ek := HN.out.2.2.2.2 k hlt
    obtain ⟨⟨e1, e2⟩, ⟨e3, e4⟩, e5, e6, e7, e8⟩ := ek
    obtain ⟨q, hq⟩ : ∃ q : Nat, E k 0 = (q : Int) := ⟨(E k 0).toNat, by omega⟩
    obtain ⟨le, hle⟩ : ∃ le, E k 2 = le := ⟨_, rfl⟩
    obtain ⟨mo, hmo⟩ : ∃ mo, E k 3 = mo := ⟨_, rfl⟩
    obtain ⟨tp, hto⟩ : ∃ tp, E k 1 = tp := ⟨_, rfl⟩
    have z0 := hc 0 (by omega)
    have z1 := hc 1 (by omega)
    have z2 := hc 2 (by omega)
    have z3 := hc 3 (by omega)
    rw [hq] at z0 e2
    rw [hto] at z1
    rw [hle] at z2 e6 e7
    rw [hmo] at z3 e7 e8
    have ql : q < np := by omega
    have c0 := cell_later (below_step hB hbr) z0
    have c1 := cell_later (below_step hB hbr) z1
    have c2' := cell_later (below_step hB hbr) z2
    have c3' := cell_later (below_step hB hbr) z3
    simp only [Nat.add_zero] at c0
    have EQ : Hid (edgeI X A E T na f t p k cur = if tp = (p : Int) then
      (if t < mo then min (innerI X A T na f t p (q : Int) le cur (min mo t - le + 1).toNat) (cntN (btwB X A q p f (f + t)) na)
       else innerI X A T na f t p (q : Int) le cur (min mo t - le + 1).toNat) else cur) := Lib.hid (by unfold edgeI; rw [hto, hq, hle, hmo, Int.toNat_natCast])
    clear hc z0 z1 z2 z3 hq hle hmo hto e1 e2 e3 e4 e5
    have hA' := fun o => hbr.alloc hbr.size o
    go_upto_region 8 with (fail)
    refine wp_named fun y hy => ?_
    obtain ⟨pe, hby⟩ := box1 hy
    have hBy := below_step hbr hby
    clear hy hA' c0 c1 c2' c3' q1
    have PE := Lib.hid pe
    have qe := cell_block pe
    clear pe
    by_cases htp : tp = (p : Int)
    rotate_left
    · have d1 : (tp != (p : Int)) = true := by simp [htp]
      have HTP := Lib.hid htp
      clear htp
      go_wp2_with fail
      go_roundw
      case rel => exact ⟨k + 1, cur, by omega, by go_num, rfl, by rw [edgesI, ← CU.out, EQ.out, if_neg HTP.out], cu0, cu1, hBy⟩
      case measure => simp [intOf]; omega
    have d1 : (tp != (p : Int)) = false := by simp [htp]
    have EQ2 : Hid (edgeI X A E T na f t p k cur = 
      (if t < mo then min (innerI X A T na f t p (q : Int) le cur (min mo t - le + 1).toNat) (cntN (btwB X A q p f (f + t)) na)
       else innerI X A T na f t p (q : Int) le cur (min mo t - le + 1).toNat)) := Lib.hid (by rw [EQ.out, if_pos htp])
    clear EQ htp
    obtain ⟨M, hM⟩ : ∃ M, (min mo t - le + 1).toNat = M := ⟨_, rfl⟩
    rw [hM] at EQ2
    have MM := Lib.hid hM
    clear hM
    go_wp2_with fail
    clear qe d1
    go_loopw [13, 16] (fun o i ws => ∃ (m : Nat) (d c2 : Int), m ≤ M ∧ d = le + (m : Int) ∧ i = .int .i64 d ∧ o = .int .i64 c2 ∧ c2 = innerI X A T na f t p (q : Int) le cur m ∧ -1000000 ≤ c2 ∧ c2 ≤ 1000400 ∧ Below y.heap.size y ws) (fun _ i _ => (401 - intOf i).toNat)
    case atStart => exact ⟨0, le, cur, by omega, by simp, rfl, rfl, rfl, cu0, cu1, Below.refl _ _⟩
    case round =>
      obtain ⟨m, d, c5, hm, hd, rfl, rfl, hc5, cv0, cv1, hbs⟩ := hrel
      have hBs := below_step hBy hbs
      have DD := Lib.hid hd
      have C5 := Lib.hid hc5
      have hd1 : le ≤ d := by omega
      clear hd hc5
      have q1 := cellsL P1.out
      have qe := cell_block (block_later hbs PE.out)
      by_cases hmt : m < M
      rotate_left
      · have hmm : m = M := by omega
        have hge : ¬ (d ≤ mo ∧ d ≤ t) := by have := MM.out; have := DD.out; omega
        have HG := Lib.hid hge
        subst hmm
        clear hge
        have hd0 : 1 ≤ d := by omega
        have hd9 : d ≤ 801 := by have := MM.out; have := DD.out; omega
        have C5' : Hid (innerI X A T na f t p (q : Int) le cur m = c5) := Lib.hid C5.out.symm
        rcases (show (d ≤ mo ∧ t < d) ∨ mo < d by have := HG.out; omega) with ⟨x1, x2⟩ | x1
        · have f2 : decide (d ≤ t) = false := by simp; omega
          have htm : t < mo := by omega
          obtain ⟨bt, hbt⟩ : ∃ bt, cntN (btwB X A q p f (f + t)) na = bt := ⟨_, rfl⟩
          have bbt := cntN_bd (btwB X A q p f (f + t)) na
          rw [hbt] at bbt
          obtain ⟨bt0, bt1⟩ := bbt
          have CB2 := Lib.hid (fun w' hw => q33Between_any np c ne c2 na c4 ad (some ⟨g3, o3, none⟩) ad4 X A q p f (f + t) w' (HX.out.later hw) (HA.out.later hw) hn1 HN.out.2.2.2.1 VA.out ql hp hbt)
          have BT := Lib.hid hbt
          clear hbt
          by_cases hlt2 : bt < c5
          · go_wp2_with fail
            (with_reducible refine (CB2.out _ (below_step hB hBs)).mono ?_)
            rintro e w3 ⟨rfl, hb3⟩
            have hB3 := below_step hBs hb3
            clear CB2
            go_wp2_with fail
            go_roundw
            case rel => exact ⟨k + 1, bt, by omega, by go_num, rfl, by rw [edgesI, ← CU.out, EQ2.out, if_pos htm, C5'.out, BT.out]; omega, by omega, by omega, hB3⟩
            case measure => simp [intOf]; omega
          · have hlt3 : c5 ≤ bt := by omega
            clear hlt2
            go_wp2_with fail
            (with_reducible refine (CB2.out _ (below_step hB hBs)).mono ?_)
            rintro e w3 ⟨rfl, hb3⟩
            have hB3 := below_step hBs hb3
            clear CB2
            go_wp2_with fail
            go_roundw
            case rel => exact ⟨k + 1, c5, by omega, by go_num, rfl, by rw [edgesI, ← CU.out, EQ2.out, if_pos htm, C5'.out, BT.out]; omega, cv0, cv1, hB3⟩
            case measure => simp [intOf]; omega
        · have f2 : decide (d ≤ mo) = false := by simp; omega
          have htm : ¬ t < mo := by have := MM.out; have := DD.out; omega
          have d3 : decide (t < mo) = false := by simp; omega
          go_wp2_with fail
          go_roundw
          case rel => exact ⟨k + 1, c5, by omega, by go_num, rfl, by rw [edgesI, ← CU.out, EQ2.out, if_neg htm, C5'.out], cv0, cv1, hBs⟩
          case measure => simp [intOf]; omega
      have hd2 : d ≤ mo := by have := MM.out; have := DD.out; omega
      have hd3 : d ≤ t := by have := MM.out; have := DD.out; omega
      have hd0 : 1 ≤ d := by omega
      obtain ⟨u2, hu2⟩ : ∃ u2 : Nat, t - d = (u2 : Int) := ⟨(t - d).toNat, by omega⟩
      have ul2 : u2 < nt := by omega
      obtain ⟨lu, tu⟩ := RO.out u2 (by omega)
      obtain ⟨g', o', a', ca', hg', hc, hl, hrow⟩ := HT.out.row ul2
      obtain ⟨rfl, rfl⟩ : g = g' ∧ o = o' := by simpa using hg'
      rw [lu] at hc hl hrow
      obtain ⟨g4, o4, rfl, hc4⟩ := hrow.int ql
      have C3 := Lib.hid hc
      obtain ⟨tv2, htv2⟩ : ∃ tv2, T u2 q = tv2 := ⟨_, rfl⟩
      have tb := tu q ql
      rw [htv2] at hc4 tb
      have C4 := Lib.hid hc4
      obtain ⟨wv, hwv⟩ : ∃ wv, wayI X A na (q : Int) (f + t - d) (p : Int) (f + t) f = wv := ⟨_, rfl⟩
      have bw := wayI_bd X A na (q : Int) (f + t - d) (p : Int) (f + t) f
      rw [hwv] at bw
      have CW := Lib.hid (fun w' hw => q33way_any np c ne c2 na c4 ad (some ⟨g3, o3, none⟩) ad4 X A q p (f + t - d) (f + t) f w' (HX.out.later hw) (HA.out.later hw) hn1 HN.out.2.2.2.1 VA.out ql hp (by omega) (by omega) (by omega) (by omega) hwv)
      obtain ⟨sv, hsv⟩ : ∃ sv, tv2 + wv = sv := ⟨_, rfl⟩
      have SV : Hid (sailI X A T na f t p (q : Int) d = sv) := Lib.hid (by unfold sailI; rw [hu2, Int.toNat_natCast, Int.toNat_natCast, htv2, hwv, hsv])
      have sv0 : -1000000 ≤ sv := by omega
      have sv1 : sv ≤ 1000800 := by omega
      have jt : IntKind.i64.wrap (t - d) = (u2 : Int) := by rw [IntWalk.i64_in _ (by omega)]; exact hu2
      have jw : IntKind.i64.wrap (tv2 + wv) = sv := by rw [IntWalk.i64_in _ (by omega)]; exact hsv
      have JT := Lib.hid jt
      have JW := Lib.hid jw
      have jun : (u2 : Int) < (nt : Int) := by omega
      have jql : (q : Int) < (np : Int) := by omega
      clear hu2 lu tu hg' hc hl hrow hc4 htv2 tb hwv bw hsv jt jw
      go_upto_region 14 with (fail)
      refine wp_named fun y2 hy2 => ?_
      obtain ⟨pa, pb, hby2⟩ := box2 hy2
      have hbs2 := below_step hbs hby2
      have hBs2 := below_step hBs hby2
      clear hy2 q1 qe
      have q1 := cellsR (block_later hBs2 P1.out)
      have qe := cellsR (block_later hbs2 PE.out)
      have qa := cellsR pa
      have qb := cellsR pb
      have c3' := fun d os => cell_later (below_regrown y2 d os) (cell_later (below_step hB hBs2) C3.out)
      have c4' := fun d os => cell_later (below_regrown y2 d os) (cell_later (below_step hB hBs2) C4.out)
      have jt := JT.out
      have jw := JW.out
      clear pa pb
      by_cases hs : sv < c5
      · (refine wp_region_quiet_below (by kernel_rfl) (by kernel_rfl) ?_; (repeat (refine wpQuiet_step (fun K hK => ?_); replace hK := Lib.hid hK; go_simp; first | (refine hK.out _ ?_; clear hK K) | (apply Exists.intro; refine ⟨fun _ => ?_, hK.out _ ?_⟩; ((go_at_call 54; exact Calls.regrown_of (CW.out _ (below_step (below_step hB hBs2) (below_regrown _ _ _))))); clear hK K))); refine wpQuiet_nil ?_)
        intro w4 hr4
        have hb4 := regrown_below hr4
        clear hr4 q1 qe qa qb c3' c4' jt jw CW
        go_wp2_with fail
        go_roundw
        case rel => exact ⟨m + 1, d + 1, sv, by omega, by have := DD.out; omega, rfl, rfl, by rw [innerI, ← C5.out, ← DD.out, SV.out]; omega, sv0, by omega, below_step hbs2 hb4⟩
        case measure => simp [intOf]; omega
      · have hs2 : c5 ≤ sv := by omega
        (refine wp_region_quiet_below (by kernel_rfl) (by kernel_rfl) ?_; (repeat (refine wpQuiet_step (fun K hK => ?_); replace hK := Lib.hid hK; go_simp; first | (refine hK.out _ ?_; clear hK K) | (apply Exists.intro; refine ⟨fun _ => ?_, hK.out _ ?_⟩; ((go_at_call 54; exact Calls.regrown_of (CW.out _ (below_step (below_step hB hBs2) (below_regrown _ _ _))))); clear hK K))); refine wpQuiet_nil ?_)
        intro w4 hr4
        have hb4 := regrown_below hr4
        clear hr4 q1 qe qa qb c3' c4' jt jw CW
        go_wp2_with fail
        go_roundw
        case rel => exact ⟨m + 1, d + 1, c5, by omega, by have := DD.out; omega, rfl, rfl, by rw [innerI, ← C5.out, ← DD.out, SV.out]; omega, cv0, cv1, below_step hbs2 hb4⟩
        case measure => simp [intOf]; omega
end Go.Proofs.Ytcpnkhiillgffaa
