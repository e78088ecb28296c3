/- HullB, HullD, TrJ, TrK, HullE, HullA, HullF, HullG, HullH, SpanB, TrL, TrM: joined. -/
import Derived.Test.YtdmegkkifiahdaaGreatPolyF
import Derived.Test.YtdmegkkifiahdaaGreatKF
import Derived.Test.YtdmegkkifiahdaaGreatKD
import Derived.Test.YtdmegkkifiahdaaGreatKE
import Derived.Shelf.SlSortCmp.NoneTotal
import Derived.Ground.SlsfProg
import Derived.Lib.SliceRun
import Derived.Shelf.Spec.SlicesGrow
import Derived.Ground.Names8Prog
import Derived.Test.YtdmegkkifiahdaaGreatSpanA
import Derived.Test.YtdmegkkifiahdaaGreatPC
import Derived.Test.YtdmegkkifiahdaaGreatFeatD
/- ContainsFunc of places that are none, with poly.Hull's own predicate. -/
namespace Go.Proofs.YtdmegkkifiahdaaGreat
open Go.RowKit Go.Shelf
attribute [local go_sem] bqOp bqAll bqUpon sqOp sqAll sqUpon
attribute [local irreducible] wpQuiet wpBQ wpPlan
set_option linter.unusedVariables false
theorem plHull1_any (x y : Int) (w : World) {v : Bool} (hv : (!decide (Vld x y)) = v) : Calls Tryz.prog 146 #[.agg #[.int .i64 x, .int .i64 y]] w fun e w' => e = .returned (.bool v) ∧ Below w.heap.size w w' := by
  obtain ⟨u, hu⟩ : ∃ u, decide (Vld x y) = u := ⟨_, rfl⟩
  rw [hu] at hv
  have HV := Lib.hid hv
  have HU := Lib.hid hu
  clear hv hu
  go_enter Tryz.func146, Tryz.ntmps146
  go_wp2_with fail
  refine calls_named fun W hW => ?_
  obtain ⟨p1, hB⟩ := box1 hW
  clear hW
  (with_reducible refine (hpValid_any _ _ _ HU.out).mono ?_)
  rintro e w1 ⟨rfl, hb1⟩
  go_wp2_with fail
  go_returns
  exact ⟨ret_bool (by rw [← HV.out]), below_step hB hb1⟩
theorem ifPtsH_any (n c : Nat) (ad : Option Addr) (X : Nat → Nat → Int) (w : World) (hR : Rows 2 w (.slice ad n c) n X) (hn : n ≤ 9223372036854775807) {r : Int} (hr : fstI (fun i => !decide (Vld (X i 0) (X i 1))) n = r) :
    Calls Tryz.prog 238 #[.slice ad n c, .func (.func 146) #[] #[]] w fun e w' => e = .returned (.int .i64 r) ∧ Below w.heap.size w w' := by
  have HR := Lib.hid hR
  have RR := Lib.hid hr
  clear hR hr
  go_enter Tryz.func238, Tryz.ntmps238
  go_wp2
  go_loopw [8] (fun i wr => ∃ k : Nat, k ≤ n ∧ i = .int .i64 k ∧ Below w.heap.size w wr ∧ ∀ m, m < k → (!decide (Vld (X m 0) (X m 1))) = false) (fun i _ => n - (Go.RowKit.intOf i).toNat)
  case atStart => exact ⟨0, by omega, rfl, Below.refl _ _, fun m hm => by omega⟩
  case round =>
    obtain ⟨k, hk, rfl, hb, hall⟩ := hrel
    have ALL := Lib.hid hall
    clear hall
    by_cases hlt : k < n
    · obtain ⟨g, o, rfl, hc⟩ := HR.out.row hlt
      have c0 := cell_later hb (hc 0 (by omega))
      have c1 := cell_later hb (hc 1 (by omega))
      simp only [Nat.add_zero] at c0 
      clear hc
      obtain ⟨v, hv⟩ : ∃ v, (!decide (Vld (X k 0) (X k 1))) = v := ⟨_, rfl⟩
      have V := Lib.hid hv
      clear hv
      go_wp2_with fail
      (with_reducible refine (plHull1_any _ _ _ V.out).mono ?_)
      rintro e w1 ⟨rfl, hb1⟩
      have hb2 := below_step hb hb1
      clear hb1 c0 c1
      cases v
      · go_wp2_with fail
        go_roundw
        case rel => exact ⟨k + 1, by omega, by go_num, hb2, fun m hm => by
          rcases Nat.lt_or_ge m k with h | h
          · exact ALL.out m h
          · obtain rfl : m = k := by omega
            exact V.out⟩
        case measure => simp [Go.RowKit.intOf]; omega
      · go_wp2_with fail
        go_returns
        exact ⟨ret_int (by rw [← RR.out]; exact (fstI_at hlt ALL.out V.out).symm), hb2⟩
    · obtain rfl : k = n := by omega
      go_wp2_with fail
      go_returns
      exact ⟨ret_int (by rw [← RR.out]; exact (fstI_none ALL.out).symm), hb⟩
theorem cfPtsH_any (n c : Nat) (ad : Option Addr) (X : Nat → Nat → Int) (w : World) (hR : Rows 2 w (.slice ad n c) n X) (hn : n ≤ 9223372036854775807) {r : Bool} (hr : (!decide (VldsX n X)) = r) :
    Calls Tryz.prog 147 #[.slice ad n c, .func (.func 146) #[] #[]] w fun e w' => e = .returned (.bool r) ∧ Below w.heap.size w w' := by
  obtain ⟨q, hq⟩ : ∃ q, fstI (fun i => !decide (Vld (X i 0) (X i 1))) n = q := ⟨_, rfl⟩
  have hqr : decide (0 ≤ q) = r := by
    rw [← hq, fstI_any, ← hr]
    exact any_bad n X
  have Q := Lib.hid hqr
  have HQ := Lib.hid hq
  have HR := Lib.hid hR
  clear hR hr hq hqr
  go_enter Tryz.func147, Tryz.ntmps147
  go_wp2_with fail
  (with_reducible refine (ifPtsH_any n c ad X _ HR.out hn HQ.out).mono ?_)
  rintro e w1 ⟨rfl, hb1⟩
  go_wp2_with fail
  go_returns
  exact ⟨ret_bool Q.out, hb1⟩
end Go.Proofs.YtdmegkkifiahdaaGreat
/- The walks of poly.Hull: slices.All and slices.Backward of places, as iterators. -/
namespace Go.Proofs.YtdmegkkifiahdaaGreat
open Go.RowKit Go.Shelf
attribute [local go_sem] bqOp bqAll bqUpon
attribute [local irreducible] wpQuiet wpBQ
attribute [local go_sem] Oper.semAt_some
set_option linter.unusedVariables false
theorem slAllPt_any (ad : Option Addr) (n c : Nat) (w : World) : Calls Tryz.prog 152 #[.slice ad n c] w fun e w' => e = .returned (.func (.func 241) #[] #[.pointer (some ⟨w.heap.size, 0, none⟩)]) ∧ w'.heap[w.heap.size]? = some (.cells #[.slice ad n c] 29 (0, 0)) ∧ Below w.heap.size w w' := by
  have r := block_new w (.cells #[.slice ad n c] 29)
  have R := Lib.hid r
  clear r
  go_enter Tryz.func152, Tryz.ntmps152
  go_wp2
  go_returns
  exact ⟨rfl, R.out, by go_grown⟩
theorem slBackPt_any (ad : Option Addr) (n c : Nat) (w : World) : Calls Tryz.prog 153 #[.slice ad n c] w fun e w' => e = .returned (.func (.func 242) #[] #[.pointer (some ⟨w.heap.size, 0, none⟩)]) ∧ w'.heap[w.heap.size]? = some (.cells #[.slice ad n c] 29 (0, 0)) ∧ Below w.heap.size w w' := by
  have r := block_new w (.cells #[.slice ad n c] 29)
  have R := Lib.hid r
  clear r
  go_enter Tryz.func153, Tryz.ntmps153
  go_wp2
  go_returns
  exact ⟨rfl, R.out, by go_grown⟩
def encQ (X : Nat → Nat → Int) (i : Nat) : Array Value := #[.int .i64 (i : Int), .agg #[.int .i64 (X i 0), .int .i64 (X i 1)]]
set_option maxRecDepth 20000 in
set_option maxHeartbeats 1000000 in
theorem slAllPt1_stops (n c : Nat) (ad : Option Addr) (X : Nat → Nat → Int) (Bn n₀ m : Nat) (hm : 2 ≤ m) (w0 w : World) (hR : Rows 2 w0 (.slice ad n c) n X) (hn : n ≤ 1000) (hb0 : Below w0.heap.size w0 w) (h0 : w0.heap.size ≤ n₀) (hn0 : n₀ ≤ w.heap.size) (hBn : Bn < w.heap.size)
    (hblk : w.heap[Bn]? = some (.cells #[.slice ad n c] 29 (0, 0))) :
    SeqStopsK Fence.wide m Tryz.prog 241 #[.pointer (some ⟨Bn, 0, none⟩)] (fun i : Fin n => encQ X i.1) (EdgeK n₀ Bn) (fun ys => ys = List.finRange n) (fun pre => True) n w := by
  intro l J Jx W hW hJ hJx hY hJ0
  have hm1 : 1 ≤ m := by omega
  have hm2 : 1 ≤ m - 1 := by omega
  have HJ := Lib.hid (fun s A B (h : J s A) (hb : Below A.heap.size A B) => hJ s A B none h (grown_of_below hb) (fun r e => by cases e))
  have HY := Lib.hid hY
  have HR := Lib.hid hR
  have J0 := Lib.hid hJ0
  have hsz := hW.size
  have W0 := Lib.hid (hb0.trans (hW.mono hb0.size))
  have BK := Lib.hid (show W.heap[Bn]? = some (.cells #[.slice ad n c] 29 (0, 0)) from (hW.block Bn hBn).trans hblk)
  clear hJ hJx hY hJ0 hW hblk hb0 hR
  have c0 := cell_block BK.out 0
  refine callsIn_of_wp Tryz.func241 rfl trivial ?_ rfl
  simp only [Tryz.ntmps241, List.append_toArray, List.cons_append, List.nil_append, List.size_toArray, List.length_cons, List.length_nil, Nat.reduceAdd, Nat.reduceSub, Array.replicate_succ, Array.replicate_zero, List.push_toArray]
  gi_wp2
  gi_loopw [7] (fun i wr => ∃ k : Nat, k ≤ n ∧ i = .int .i64 k ∧ J (preN n k) wr ∧ EdgeK n₀ Bn W wr) (fun i _ => n - (Go.RowKit.intOf i).toNat)
  case atStart => exact ⟨0, by omega, rfl, J0.out, EdgeK.refl _ _ _⟩
  case round =>
    obtain ⟨k, hk, rfl, hJr, hKr⟩ := hrel
    have JR := Lib.hid hJr
    have KR := Lib.hid hKr
    clear hJr hKr
    obtain ⟨wo, rfl⟩ : ∃ wo : World, wo = wr := ⟨_, rfl⟩
    by_cases hlt : k < n
    rotate_left
    · obtain rfl : k = n := by omega
      gi_wp2
      go_end0
      exact ⟨⟨_, rfl⟩, .inl ⟨_, rfl, by rw [← preN_all]; exact JR.out⟩⟩
    have hs2 : W.heap.size ≤ wo.heap.size := KR.out.below.size
    have hRr : Rows 2 wo (.slice ad n c) n X := HR.out.later (W0.out.trans (KR.out.below.mono h0))
    obtain ⟨g, o, rfl, hc⟩ := hRr.row hlt
    have r0 := hc 0 (by omega)
    have r1 := hc 1 (by omega)
    simp only [Nat.add_zero] at r0
    clear hc hRr
    have hbl := (Below.refl wo.heap.size wo).alloc (Nat.le_refl _) (.cells #[.int .i64 (X k 0), .int .i64 (X k 1)] 28)
    have hbn : Bn < wo.heap.size := by omega
    have hn1 : n₀ ≤ wo.heap.size := by omega
    have HK1 := Lib.hid (KR.out.trans (EdgeK.of_below hbl hn1 hbn))
    have HJ1 := Lib.hid (HJ.out _ _ _ JR.out hbl)
    clear hbl
    obtain ⟨fn, tmps, assign, body, hy, hR⟩ := HY.out (preN n k) ⟨k, hlt⟩ _ HJ1.out (by rw [preN_len hk]; exact hlt)
    unfold encQ at hy
    dsimp only at hy
    gi_wp2
    refine hR.mono ?_
    rintro e w2 (⟨rfl, hJ2, hk2⟩ | ⟨rfl, hJ2⟩)
    · have J2 := Lib.hid hJ2
      have K2 := Lib.hid (HK1.out.trans hk2)
      clear hJ2 hk2 hy hR
      gi_wp2
      go_roundw
      case rel => exact ⟨k + 1, by omega, by go_num, by rw [preN_snoc hlt]; exact J2.out, K2.out⟩
      case measure => simp [Go.RowKit.intOf]; omega
    · have J2 := Lib.hid hJ2
      clear hJ2 hy hR
      gi_wp2
      refine bodyPost_ret (results_none rfl _ _ _) rfl ⟨⟨_, rfl⟩, .inr ⟨preN n k ++ [⟨k, hlt⟩], trivial, J2.out⟩⟩
set_option maxRecDepth 20000 in
set_option maxHeartbeats 1000000 in
theorem slBackPt1_stops (n c : Nat) (ad : Option Addr) (X : Nat → Nat → Int) (Bn n₀ m : Nat) (hm : 2 ≤ m) (w0 w : World) (hR : Rows 2 w0 (.slice ad n c) n X) (hn : n ≤ 1000) (hb0 : Below w0.heap.size w0 w) (h0 : w0.heap.size ≤ n₀) (hn0 : n₀ ≤ w.heap.size) (hBn : Bn < w.heap.size)
    (hblk : w.heap[Bn]? = some (.cells #[.slice ad n c] 29 (0, 0))) :
    SeqStopsK Fence.wide m Tryz.prog 242 #[.pointer (some ⟨Bn, 0, none⟩)] (fun i : Fin n => encQ X (n - 1 - i.1)) (EdgeK n₀ Bn) (fun ys => ys = List.finRange n) (fun pre => True) n w := by
  intro l J Jx W hW hJ hJx hY hJ0
  have hm1 : 1 ≤ m := by omega
  have hm2 : 1 ≤ m - 1 := by omega
  have HJ := Lib.hid (fun s A B (h : J s A) (hb : Below A.heap.size A B) => hJ s A B none h (grown_of_below hb) (fun r e => by cases e))
  have HY := Lib.hid hY
  have HR := Lib.hid hR
  have J0 := Lib.hid hJ0
  have hsz := hW.size
  have W0 := Lib.hid (hb0.trans (hW.mono hb0.size))
  have BK := Lib.hid (show W.heap[Bn]? = some (.cells #[.slice ad n c] 29 (0, 0)) from (hW.block Bn hBn).trans hblk)
  clear hJ hJx hY hJ0 hW hblk hb0 hR
  have c0 := cell_block BK.out 0
  refine callsIn_of_wp Tryz.func242 rfl trivial ?_ rfl
  simp only [Tryz.ntmps242, List.append_toArray, List.cons_append, List.nil_append, List.size_toArray, List.length_cons, List.length_nil, Nat.reduceAdd, Nat.reduceSub, Array.replicate_succ, Array.replicate_zero, List.push_toArray]
  gi_wp2
  gi_loopw [3] (fun i wr => ∃ k : Nat, k ≤ n ∧ i = .int .i64 ((n : Int) - 1 - (k : Int)) ∧ J (preN n k) wr ∧ EdgeK n₀ Bn W wr) (fun i _ => (Go.RowKit.intOf i + 1).toNat)
  case atStart => exact ⟨0, by omega, by simp, J0.out, EdgeK.refl _ _ _⟩
  case round =>
    obtain ⟨k, hk, rfl, hJr, hKr⟩ := hrel
    have JR := Lib.hid hJr
    have KR := Lib.hid hKr
    clear hJr hKr
    obtain ⟨wo, rfl⟩ : ∃ wo : World, wo = wr := ⟨_, rfl⟩
    by_cases hlt : k < n
    rotate_left
    · obtain rfl : k = n := by omega
      gi_wp2
      go_end0
      exact ⟨⟨_, rfl⟩, .inl ⟨_, rfl, by rw [← preN_all]; exact JR.out⟩⟩
    have hs2 : W.heap.size ≤ wo.heap.size := KR.out.below.size
    have hRr : Rows 2 wo (.slice ad n c) n X := HR.out.later (W0.out.trans (KR.out.below.mono h0))
    obtain ⟨p, hp⟩ : ∃ p, n - 1 - k = p := ⟨_, rfl⟩
    have hpn : p < n := by omega
    obtain ⟨g, o, rfl, hc⟩ := hRr.row hpn
    have r0 := hc 0 (by omega)
    have r1 := hc 1 (by omega)
    have b0 := cell_block (KR.out.blk.trans BK.out) 0
    simp only [Nat.add_zero] at r0
    clear hc hRr
    have hpi : (n : Int) - 1 - (k : Int) = (p : Int) := by omega
    rw [hpi]
    obtain ⟨fn, tmps, assign, body, hy, hR⟩ := HY.out (preN n k) ⟨k, hlt⟩ _ JR.out (by rw [preN_len hk]; exact hlt)
    unfold encQ at hy
    dsimp only at hy
    rw [hp] at hy
    have HP := Lib.hid hp
    clear hp hpi
    gi_wp2
    refine hR.mono ?_
    rintro e w2 (⟨rfl, hJ2, hk2⟩ | ⟨rfl, hJ2⟩)
    · have J2 := Lib.hid hJ2
      have K2 := Lib.hid (KR.out.trans hk2)
      clear hJ2 hk2 hy hR
      gi_wp2
      go_roundw
      case rel => exact ⟨k + 1, by omega, by congr 1; have := HP.out; omega, by rw [preN_snoc hlt]; exact J2.out, K2.out⟩
      case measure => simp [Go.RowKit.intOf] <;> omega
    · have J2 := Lib.hid hJ2
      clear hJ2 hy hR
      gi_wp2
      refine bodyPost_ret (results_none rfl _ _ _) rfl ⟨⟨_, rfl⟩, .inr ⟨preN n k ++ [⟨k, hlt⟩], trivial, J2.out⟩⟩
end Go.Proofs.YtdmegkkifiahdaaGreat
/- The walks of package transport: the corners of a box, as an iterator; slices.AppendSeq of them. -/
namespace Go.Proofs.YtdmegkkifiahdaaGreat
open Go.RowKit Go.Shelf
attribute [local go_sem] bqOp bqAll bqUpon
attribute [local irreducible] wpQuiet wpBQ
attribute [local go_sem] Oper.semAt_some
set_option linter.unusedVariables false
def cornP (b : Bx) (i : Nat) : Pt := (cornersB b).getD i (0, 0)
def encC (b : Bx) (i : Nat) : Array Value := #[.agg #[.int .i64 ((cornP b i).1), .int .i64 ((cornP b i).2)]]
theorem run_ix0 (w : World) (x y : Int) : (Instr.index 363 (.agg #[.int .i64 x, .int .i64 y]) (.int .i64 0)).run Tryz.prog w = .ok (.int .i64 x) w := by
  simp [Instr.index, asIntOf, run_underlying Tryz.underlying363, Tryz.sizeOf3, go_sem]
theorem run_ix1 (w : World) (x y : Int) : (Instr.index 363 (.agg #[.int .i64 x, .int .i64 y]) (.int .i64 1)).run Tryz.prog w = .ok (.int .i64 y) w := by
  simp [Instr.index, asIntOf, run_underlying Tryz.underlying363, Tryz.sizeOf3, go_sem]
attribute [local go_sem] run_ix0 run_ix1
theorem trcorners_any (b : Bx) (w : World) : Calls Tryz.prog 252 #[boxV b] w fun e w' => e = .returned (.func (.func 341) #[] #[.pointer (some ⟨w.heap.size, 0, none⟩)]) ∧ w'.heap[w.heap.size]? = some (.cells #[.int .i64 b.lx, .int .i64 b.hx, .int .i64 b.ly, .int .i64 b.hy] 240 (0, 0)) ∧ Below w.heap.size w w' := by
  dsimp only [boxV]
  have r := block_new w (.cells #[.int .i64 b.lx, .int .i64 b.hx, .int .i64 b.ly, .int .i64 b.hy] 240)
  have R := Lib.hid r
  clear r
  go_enter Tryz.func252, Tryz.ntmps252
  go_wp2
  go_returns
  exact ⟨rfl, R.out, by go_grown⟩
set_option maxRecDepth 20000 in
set_option maxHeartbeats 2000000 in
theorem trcorners1_stops (b : Bx) (B1 n₀ mm : Nat) (hm : 2 ≤ mm) (w : World) (hn0 : n₀ ≤ w.heap.size) (hB1 : B1 < w.heap.size) (hblk : w.heap[B1]? = some (.cells #[.int .i64 b.lx, .int .i64 b.hx, .int .i64 b.ly, .int .i64 b.hy] 240 (0, 0))) :
    SeqStopsK Fence.wide mm Tryz.prog 341 #[.pointer (some ⟨B1, 0, none⟩)] (fun i : Fin 4 => encC b i.1) (EdgeK n₀ B1) (fun ys => ys = List.finRange 4) (fun pre => True) 4 w := by
  intro lp J Jx W hW hJ hJx hY hJ0
  have hm1 : 1 ≤ mm := by omega
  have hm2 : 1 ≤ mm - 1 := by omega
  have HY := Lib.hid hY
  have J0 := Lib.hid hJ0
  have hsz := hW.size
  have BK := Lib.hid (show W.heap[B1]? = some (.cells #[.int .i64 b.lx, .int .i64 b.hx, .int .i64 b.ly, .int .i64 b.hy] 240 (0, 0)) from (hW.block B1 hB1).trans hblk)
  clear hJ hJx hY hJ0 hW hblk
  have c0 := cell_block BK.out
  refine callsIn_of_wp Tryz.func341 rfl trivial ?_ rfl
  simp only [Tryz.ntmps341, List.append_toArray, List.cons_append, List.nil_append, List.size_toArray, List.length_cons, List.length_nil, Nat.reduceAdd, Nat.reduceSub, Array.replicate_succ, Array.replicate_zero, List.push_toArray]
  gi_wp2
  clear c0
  gi_loopw [14] (fun i wr => ∃ k : Nat, k ≤ 2 ∧ i = .int .i64 k ∧ J (preN 4 (2 * k)) wr ∧ EdgeK n₀ B1 W wr) (fun i _ => 2 - (Go.RowKit.intOf i).toNat)
  case atStart => exact ⟨0, by omega, rfl, J0.out, EdgeK.refl _ _ _⟩
  case round =>
    obtain ⟨k, hk, rfl, hJr, hKr⟩ := hrel
    have JR := Lib.hid hJr
    have KR := Lib.hid hKr
    clear hJr hKr
    obtain ⟨wo, rfl⟩ : ∃ wo : World, wo = wr := ⟨_, rfl⟩
    obtain rfl | rfl | rfl : k = 0 ∨ k = 1 ∨ k = 2 := by omega
    · have b0 := cell_block (KR.out.blk.trans BK.out)
      gi_wp2
      clear b0
      gi_loopw [24] (fun i wr => ∃ q : Nat, q ≤ 2 ∧ i = .int .i64 q ∧ J (preN 4 (0 + q)) wr ∧ EdgeK n₀ B1 W wr) (fun i _ => 2 - (Go.RowKit.intOf i).toNat)
      case atStart => exact ⟨0, by omega, rfl, JR.out, KR.out⟩
      case round =>
        clear JR KR
        obtain ⟨q, hq, rfl, hJr, hKr⟩ := hrel
        have JR := Lib.hid hJr
        have KR := Lib.hid hKr
        clear hJr hKr
        obtain ⟨wi, rfl⟩ : ∃ wi : World, wi = wr := ⟨_, rfl⟩
        obtain rfl | rfl | rfl : q = 0 ∨ q = 1 ∨ q = 2 := by omega
        · obtain ⟨fn, tmps, assign, body, hy, hR⟩ := HY.out (preN 4 0) ⟨0, by omega⟩ wi JR.out (by rw [preN_len (by omega)]; omega)
          have ee : encC b (⟨0, by omega⟩ : Fin 4).1 = #[.agg #[.int .i64 b.lx, .int .i64 b.ly]] := rfl
          rw [ee] at hy
          clear ee
          gi_wp2
          refine hR.mono ?_
          rintro e w2 (⟨rfl, hJ2, hk2⟩ | ⟨rfl, hJ2⟩)
          · have J2 := Lib.hid hJ2
            have K2 := Lib.hid (KR.out.trans hk2)
            clear hJ2 hk2 hy hR
            gi_wp2
            go_roundw
            case rel => exact ⟨_, _, _, _, _, _, _, _, _, _, _, ⟨1, by omega, rfl, by have := J2.out; rw [← preN_snoc] at this; exact this, K2.out⟩, rfl⟩
            case measure => simp [Go.RowKit.intOf]
          · have J2 := Lib.hid hJ2
            clear hJ2 hy hR
            gi_wp2
            refine bodyPost_ret (results_none rfl _ _ _) rfl ⟨⟨_, rfl⟩, .inr ⟨preN 4 0 ++ [⟨0, by omega⟩], trivial, J2.out⟩⟩
        · obtain ⟨fn, tmps, assign, body, hy, hR⟩ := HY.out (preN 4 1) ⟨1, by omega⟩ wi JR.out (by rw [preN_len (by omega)]; omega)
          have ee : encC b (⟨1, by omega⟩ : Fin 4).1 = #[.agg #[.int .i64 b.lx, .int .i64 b.hy]] := rfl
          rw [ee] at hy
          clear ee
          gi_wp2
          refine hR.mono ?_
          rintro e w2 (⟨rfl, hJ2, hk2⟩ | ⟨rfl, hJ2⟩)
          · have J2 := Lib.hid hJ2
            have K2 := Lib.hid (KR.out.trans hk2)
            clear hJ2 hk2 hy hR
            gi_wp2
            go_roundw
            case rel => exact ⟨_, _, _, _, _, _, _, _, _, _, _, ⟨2, by omega, rfl, by have := J2.out; rw [← preN_snoc] at this; exact this, K2.out⟩, rfl⟩
            case measure => simp [Go.RowKit.intOf]
          · have J2 := Lib.hid hJ2
            clear hJ2 hy hR
            gi_wp2
            refine bodyPost_ret (results_none rfl _ _ _) rfl ⟨⟨_, rfl⟩, .inr ⟨preN 4 1 ++ [⟨1, by omega⟩], trivial, J2.out⟩⟩
        · gi_wp2
          go_roundw
          case rel => exact ⟨1, by omega, by go_num, JR.out, KR.out⟩
          case measure => simp [Go.RowKit.intOf]
    · have b0 := cell_block (KR.out.blk.trans BK.out)
      gi_wp2
      clear b0
      gi_loopw [24] (fun i wr => ∃ q : Nat, q ≤ 2 ∧ i = .int .i64 q ∧ J (preN 4 (2 + q)) wr ∧ EdgeK n₀ B1 W wr) (fun i _ => 2 - (Go.RowKit.intOf i).toNat)
      case atStart => exact ⟨0, by omega, rfl, JR.out, KR.out⟩
      case round =>
        clear JR KR
        obtain ⟨q, hq, rfl, hJr, hKr⟩ := hrel
        have JR := Lib.hid hJr
        have KR := Lib.hid hKr
        clear hJr hKr
        obtain ⟨wi, rfl⟩ : ∃ wi : World, wi = wr := ⟨_, rfl⟩
        obtain rfl | rfl | rfl : q = 0 ∨ q = 1 ∨ q = 2 := by omega
        · obtain ⟨fn, tmps, assign, body, hy, hR⟩ := HY.out (preN 4 2) ⟨2, by omega⟩ wi JR.out (by rw [preN_len (by omega)]; omega)
          have ee : encC b (⟨2, by omega⟩ : Fin 4).1 = #[.agg #[.int .i64 b.hx, .int .i64 b.ly]] := rfl
          rw [ee] at hy
          clear ee
          gi_wp2
          refine hR.mono ?_
          rintro e w2 (⟨rfl, hJ2, hk2⟩ | ⟨rfl, hJ2⟩)
          · have J2 := Lib.hid hJ2
            have K2 := Lib.hid (KR.out.trans hk2)
            clear hJ2 hk2 hy hR
            gi_wp2
            go_roundw
            case rel => exact ⟨_, _, _, _, _, _, _, _, _, _, _, ⟨1, by omega, rfl, by have := J2.out; rw [← preN_snoc] at this; exact this, K2.out⟩, rfl⟩
            case measure => simp [Go.RowKit.intOf]
          · have J2 := Lib.hid hJ2
            clear hJ2 hy hR
            gi_wp2
            refine bodyPost_ret (results_none rfl _ _ _) rfl ⟨⟨_, rfl⟩, .inr ⟨preN 4 2 ++ [⟨2, by omega⟩], trivial, J2.out⟩⟩
        · obtain ⟨fn, tmps, assign, body, hy, hR⟩ := HY.out (preN 4 3) ⟨3, by omega⟩ wi JR.out (by rw [preN_len (by omega)]; omega)
          have ee : encC b (⟨3, by omega⟩ : Fin 4).1 = #[.agg #[.int .i64 b.hx, .int .i64 b.hy]] := rfl
          rw [ee] at hy
          clear ee
          gi_wp2
          refine hR.mono ?_
          rintro e w2 (⟨rfl, hJ2, hk2⟩ | ⟨rfl, hJ2⟩)
          · have J2 := Lib.hid hJ2
            have K2 := Lib.hid (KR.out.trans hk2)
            clear hJ2 hk2 hy hR
            gi_wp2
            go_roundw
            case rel => exact ⟨_, _, _, _, _, _, _, _, _, _, _, ⟨2, by omega, rfl, by have := J2.out; rw [← preN_snoc] at this; exact this, K2.out⟩, rfl⟩
            case measure => simp [Go.RowKit.intOf]
          · have J2 := Lib.hid hJ2
            clear hJ2 hy hR
            gi_wp2
            refine bodyPost_ret (results_none rfl _ _ _) rfl ⟨⟨_, rfl⟩, .inr ⟨preN 4 3 ++ [⟨3, by omega⟩], trivial, J2.out⟩⟩
        · gi_wp2
          go_roundw
          case rel => exact ⟨2, by omega, by go_num, JR.out, KR.out⟩
          case measure => simp [Go.RowKit.intOf]
    · gi_wp2
      go_end0
      exact ⟨⟨_, rfl⟩, .inl ⟨_, rfl, by rw [← preN_all]; exact JR.out⟩⟩
end Go.Proofs.YtdmegkkifiahdaaGreat
/- The walk of slices.AppendSeq of the corners of a box. -/
namespace Go.Proofs.YtdmegkkifiahdaaGreat
open Go.RowKit Go.Shelf
attribute [local go_sem] bqOp bqAll bqUpon
attribute [local irreducible] wpQuiet wpBQ
attribute [local go_sem] Oper.semAt_some
set_option linter.unusedVariables false
theorem corn_all (b : Bx) : (List.finRange 4).map (fun i => cornP b i.1) = cornersB b := rfl
/-- What is no row of places stays. -/
def KeepNP (w W : World) : Prop := ∀ (j : Nat) (cs : Array Value) (T : TypeId) (mm : Nat × Nat), T ≠ 28 → w.heap[j]? = some (.cells cs T mm) → W.heap[j]? = some (.cells cs T mm)
theorem KeepNP.of_below {w W : World} (h : Below w.heap.size w W) : KeepNP w W := fun j cs T mm hT hj => block_later h hj
theorem KeepNP.trans {a b c : World} (h : KeepNP a b) (k : KeepNP b c) : KeepNP a c := fun j cs T mm hT hj => k j cs T mm hT (h j cs T mm hT hj)
theorem KeepNP.set {w W : World} (h : KeepNP w W) {g i : Nat} (hg : w.heap.size ≤ g) (v : Value) : KeepNP w (W.setCell ⟨g, i, none⟩ v) := fun j cs T mm hT hj =>
  (Below.heap_setCell _ _ _ _ (fun e => by have := lt_block hj; have e2 : j = g := e; omega)).trans (h j cs T mm hT hj)
/-- The list that grows, in its variable's block. -/
def AccI (w : World) (base bx B1 : Nat) (W0 : World) (b : Bx) (l : List Pt) (n : Nat) (pre : List (Fin 4)) (W : World) : Prop :=
  ∃ (ad : Option Addr) (c N : Nat), n + pre.length = N ∧ W.heap[bx]? = some (.cells #[.slice ad N c] 29 (0, 0)) ∧ OwnPt base W (.slice ad N c) (l ++ pre.map fun i => cornP b i.1) ∧ EdgeK base B1 W0 W ∧ KeepNP w W
theorem accI_own {w : World} {base bx B1 B : Nat} {W0 : World} {b : Bx} {l : List Pt} {n : Nat} (h1 : base ≤ W0.heap.size) (h2 : base ≤ B) (h3 : B1 < B) (h4 : B1 < W0.heap.size) : OwnFrom B (AccI w base bx B1 W0 b l n) := fun s X Y row ⟨ad, c, N, hN, hx, ho, hk, hnp⟩ hg hr =>
  ⟨ad, c, N, hN, blk_own (β := Unit) (f := fun _ => #[.slice ad N c]) () X Y row hx hg hr, ownT_own (β := Unit) (v := fun _ => .slice ad N c) (l := fun _ => l ++ s.map fun i => cornP b i.1) () X Y row ho hg hr, edgeK_own (β := Unit) h1 h2 h3 h4 () X Y row hk hg hr, fun j cs T mm hT hj => blk_own (β := Unit) (f := fun _ => cs) () X Y row (hnp j cs T mm hT hj) hg hr⟩
theorem own_ne {base g : Nat} {w : World} {v : Value} {l : List Pt} {cs : Array Value} {T : TypeId} {m : Nat × Nat} (h : OwnPt base w v l) (hb : w.heap[g]? = some (.cells cs T m)) (hT : T ≠ 28) : some g ≠ v.ownBlock := fun e => by
  obtain ⟨cs', h1, _⟩ := OwnT.cells h g e.symm
  rw [hb] at h1
  simp only [Option.some.injEq, Obj.cells.injEq] at h1
  exact hT h1.2.1
set_option maxRecDepth 20000 in
set_option maxHeartbeats 2000000 in
theorem slSeqPt_corners (b : Bx) (B1 base n c : Nat) (ad : Option Addr) (l : List Pt) (w : World) (hown : OwnPt base w (.slice ad n c) l) (hn : l.length = n) (h200 : n ≤ 1000) (hbase : base ≤ w.heap.size)
    (hblk : w.heap[B1]? = some (.cells #[.int .i64 b.lx, .int .i64 b.hx, .int .i64 b.ly, .int .i64 b.hy] 240 (0, 0))) :
    Calls Tryz.prog 256 #[.slice ad n c, .func (.func 341) #[] #[.pointer (some ⟨B1, 0, none⟩)]] w fun e w' => ∃ (ad' : Option Addr) (c' : Nat), e = .returned (.slice ad' (n + 4) c') ∧ OwnPt base w' (.slice ad' (n + 4) c') (l ++ cornersB b) ∧ Below base w w' ∧ KeepNP w w' := by
  have HO := Lib.hid hown
  have HB := Lib.hid hblk
  have hB1 := lt_block hblk
  have HN := Lib.hid hn
  clear hown hblk hn
  refine (callsIn_wide (n := 5)).1 ?_
  refine callsIn_of_wp_marks Tryz.func256 rfl trivial ?_ rfl
  simp only [Tryz.ntmps256, List.append_toArray, List.cons_append, List.nil_append, List.size_toArray, List.length_cons, List.length_nil, Nat.reduceAdd, Nat.reduceSub, Array.replicate_succ, Array.replicate_zero, List.push_toArray]
  gi_wp2
  generalize hW0 : (World.alloc _ _) = W0
  have hs0 : W0.heap.size = w.heap.size + 1 := by subst hW0; simp
  obtain ⟨p1, hB0⟩ := box1 hW0.symm
  clear hW0
  have hblk0 := block_later hB0 HB.out
  have HB0 := Lib.hid hB0
  have BK0 := Lib.hid hblk0
  refine wpIn_rangeFunc_round (F := Fence.wide) (n := 5) rfl (by omega) (gf := 341) (lb := #[.pointer (some ⟨B1, 0, none⟩)]) rfl trivial (enters_of Tryz.func341 (by kernel_rfl) rfl)
    (trcorners1_stops b B1 base 4 (by omega) W0 (by omega) (by omega) hblk0)
    EdgeK.trans (edgeK_b (by omega) (by omega)) (Below.refl _ _) (fun _ => rfl)
    (AccI w base w.heap.size B1 W0 b l n) (fun _ _ _ => False) (accI_own (by omega) (by omega) (by omega) (by omega)) (fun c s W W' row h _ _ => h.elim)
    ⟨ad, c, n, rfl, p1, by rw [List.map_nil, List.append_nil]; exact HO.out.keep hB0, EdgeK.refl _ _ _, KeepNP.of_below hB0⟩ ?round ?done ?stop
  case round =>
    rintro l1 pre x W ⟨ad1, c1, N1, hN1, q1, how1, hK1, hnp1⟩
    have hsW := hK1.below.size
    obtain ⟨⟨px, py⟩, hx⟩ : ∃ y, cornP b x.1 = y := ⟨_, rfl⟩
    have HX := Lib.hid hx
    unfold encC
    rw [hx]
    clear hx
    dsimp only
    gi_wp2
    have hbl := (Below.refl W.heap.size W).alloc (Nat.le_refl _) (.cells #[.int .i64 px, .int .i64 py] 28)
    have hek := EdgeK.of_below (n₀ := base) (Bn := B1) hbl (by omega) (by omega)
    refine ⟨(KeepsOthers.alloc _ _).from _, hek, ⟨ad1, c1, N1, hN1, block_later hbl q1, how1.keep hbl, hK1.trans hek, hnp1.trans (KeepNP.of_below hbl)⟩, ?_⟩
    clear q1 how1 hN1 hnp1
    rintro l2 pre2 W2 hT hl2 hr2 ⟨ad2, c2, N2, hN2, q2, how2, hK2, hnp2⟩ hlen
    have NP2 := Lib.hid hnp2
    clear hnp2
    have hbx := hT.cs (block_new W (.cells #[.int .i64 px, .int .i64 py] 28))
    have x0 := cell_block hbx
    have s0 := cell_block q2
    have s1 := free_block q2
    have hsz2 : W.heap.size + 1 ≤ W2.heap.size := by have := hT.size; simpa using this
    have HOW := Lib.hid how2
    have K2 := Lib.hid hK2
    have Q2 := Lib.hid q2
    have LN : Hid ((l ++ pre2.map fun i => cornP b i.1).length = N2) := Lib.hid (by rw [List.length_append, List.length_map, HN.out]; exact hN2)
    have SN : Hid ((l ++ (pre2 ++ [x]).map fun i => cornP b i.1) = (l ++ pre2.map fun i => cornP b i.1) ++ [(px, py)]) := Lib.hid (by rw [List.map_append, List.map_cons, List.map_nil, HX.out, List.append_assoc])
    have hq2 := lt_block q2
    clear how2 hK2 q2 hT hbx hbl hek
    gi_wp2_with (gi_at_builtin; generalize hwn : World.alloc _ _ = wA; obtain ⟨pA, hbA⟩ := box1 hwn.symm; clear hwn; have hsA := hbA.size; have HA := HOW.out.keep hbA; have qA := block_later hbA Q2.out; refine wpListIn_appT pCells_len (by omega) Tryz.underlying29 info_pt rfl rfl _ _ rfl base _ (l ++ pre2.map fun i => cornP b i.1) [(px, py)] rfl HA _ 1 1 rfl rfl (SrcAt.one pA rfl) (pts_one _) (by rw [LN.out]) (by unfold maxLen; omega) (by omega) (by omega) ?_; intro ad3 c3 w3 hown3 hg3 hb3; have q3 := (hg3.block w.heap.size (by omega) (own_ne HA qA (by decide))).trans qA; have z0 := cell_block q3; have z1 := free_block q3; have Q3 := Lib.hid q3; have HG3 := Lib.hid hg3; have HO3 := Lib.hid hown3; have HB3 := Lib.hid hb3; have HAA := Lib.hid HA; have HBA := Lib.hid hbA; have BA := Lib.hid (block_later hbA (K2.out.blk.trans BK0.out)); clear q3 hg3 hown3 hb3 HA hbA qA pA)
    have hb1 : w3.heap[B1]? = W2.heap[B1]? := (HG3.out.block B1 (lt_block BA.out) (own_ne HAA.out BA.out (by decide))).trans (HBA.out.block B1 (by have := K2.out.below.size; omega))
    have hek : EdgeK base B1 W2 w3 := ⟨(HBA.out.mono (by have := K2.out.below.size; omega)).trans HB3.out, hb1⟩
    have hs3 := HB3.out.size
    refine ⟨((((KeepsOthers.of_grownBy (row := none) (grownBy_of_below' HBA.out) (fun j o h _ => by cases h)).from _).trans (OwnT.keeps HAA.out HG3.out)).trans ((KeepsOthers.setCell _ _ _).from _)), hek.trans (EdgeK.set _ _ _ (by omega) (by omega)), ad3, c3, N2 + 1, by rw [← hN2, List.length_append]; rfl, block_set Q3.out _, ?_, (K2.out.trans hek).trans (EdgeK.set _ _ _ (by omega) (by omega)), ((NP2.out.trans (KeepNP.of_below HBA.out)).trans (fun j cs T mm hT hj => (HG3.out.block j (lt_block hj) (own_ne HAA.out hj hT)).trans hj)).set (Nat.le_refl _) _⟩
    rw [SN.out]
    exact own_set HO3.out (own_ne HO3.out Q3.out (by decide)) _
  case done =>
    rintro D xs W hD rfl ⟨ad1, c1, N1, hN1, q1, how1, hK1, hnp1⟩ hdef
    have NP := Lib.hid hnp1
    clear hnp1
    rw [corn_all] at how1
    obtain rfl : n + 4 = N1 := hN1
    have HD := Lib.hid hdef
    have HOW := Lib.hid how1
    have K := Lib.hid hK1
    have s0 := cell_block q1
    clear hdef how1 hK1
    gi_wp2
    refine ⟨by simp, .inl ⟨_, _, rfl, run_takeDeferred HD.out, ?_⟩⟩
    refine ⟨.slice ad1 (n + 4) c1, by simp [results, Tryz.results256, go_sem], ad1, c1, rfl, ?_, ?_, fun j cs T mm hT hj => (World.putObj_heap_other (o := .deferred none) (by have := lt_block hj; omega)).trans (NP.out j cs T mm hT hj)⟩
    · exact (ownT_own (β := Unit) (B := W0.heap.size) (v := fun _ => .slice ad1 (n + 4) c1) (l := fun _ => l ++ cornersB b)).putObj _ (s := ()) HOW.out hD HD.out rfl
    · exact (HB0.out.mono hbase).trans (K.out.below.trans (belowK_b (w := W0) (by omega) _ D _ _ hD HD.out rfl rfl))
  case stop =>
    rintro D c pre W _ _ h _
    exact h.elim
end Go.Proofs.YtdmegkkifiahdaaGreat
/- The walk of poly.half: the corners from the first place to the last one. -/
namespace Go.Proofs.YtdmegkkifiahdaaGreat
open Go.RowKit Go.Shelf
attribute [local go_sem] bqOp bqAll bqUpon sqOp sqAll sqUpon
attribute [local irreducible] wpQuiet wpBQ wpPlan
attribute [local go_sem] Oper.semAt_some
set_option linter.unusedVariables false
/-- The stack of the half behind places. -/
def halfP {n : Nat} (Y : Fin n → Pt) (pre : List (Fin n)) : List Pt := halfR (pre.map Y)
theorem halfP_snoc {n : Nat} (Y : Fin n → Pt) (pre : List (Fin n)) (i : Fin n) : halfP Y (pre ++ [i]) = Y i :: popR (Y i) (halfP Y pre) := by
  unfold halfP halfR
  rw [List.map_append, List.foldl_append]
  rfl
theorem popR_len (q : Pt) : ∀ l : List Pt, (popR q l).length ≤ l.length
  | [] => Nat.le_refl _
  | [_] => Nat.le_refl _
  | t :: u :: r => by
    unfold popR
    split
    · have := popR_len q (u :: r)
      simp only [List.length_cons] at this ⊢
      omega
    · exact Nat.le_refl _
theorem popR_mem (q : Pt) : ∀ (l : List Pt), ∀ z ∈ popR q l, z ∈ l
  | [], z, h => h
  | [_], z, h => h
  | t :: u :: r, z, h => by
    unfold popR at h
    split at h
    · exact List.mem_cons_of_mem _ (popR_mem q (u :: r) z h)
    · exact h
theorem halfP_len {n : Nat} (Y : Fin n → Pt) (pre : List (Fin n)) : (halfP Y pre).length ≤ pre.length := by
  unfold halfP halfR
  have : ∀ (l : List Pt) (st : List Pt), (l.foldl (fun st q => q :: popR q st) st).length ≤ st.length + l.length := by
    intro l
    induction l with
    | nil => intro st; simp
    | cons x l ih =>
      intro st
      have h1 := ih (x :: popR x st)
      have h2 := popR_len x st
      simp only [List.foldl_cons, List.length_cons] at h1 ⊢
      omega
  have := this (pre.map Y) []
  simpa using this
theorem halfP_mem {n : Nat} (Y : Fin n → Pt) (pre : List (Fin n)) : ∀ z ∈ halfP Y pre, ∃ i : Fin n, Y i = z := by
  unfold halfP halfR
  have : ∀ (l : List (Fin n)) (st : List Pt), (∀ z ∈ st, ∃ i, Y i = z) → ∀ z ∈ (l.map Y).foldl (fun st q => q :: popR q st) st, ∃ i, Y i = z := by
    intro l
    induction l with
    | nil => intro st h; exact h
    | cons x l ih =>
      intro st h
      refine ih (Y x :: popR (Y x) st) fun z hz => ?_
      rcases List.mem_cons.1 hz with rfl | hz
      · exact ⟨x, rfl⟩
      · exact h z (popR_mem _ _ z hz)
  exact this pre [] (fun z hz => by simp at hz)
/-- The list that grows, in its variable's block. -/
def HalfI (base bx Bn : Nat) (W0 : World) {n : Nat} (Y : Fin n → Pt) (pre : List (Fin n)) (W : World) : Prop :=
  ∃ (ad : Option Addr) (c N : Nat), (halfP Y pre).length = N ∧ W.heap[bx]? = some (.cells #[.slice ad N c] 29 (0, 0)) ∧ OwnPt base W (.slice ad N c) (halfP Y pre).reverse ∧ EdgeK base Bn W0 W
theorem halfI_own {base bx Bn B : Nat} {W0 : World} {n : Nat} {Y : Fin n → Pt} (h1 : base ≤ W0.heap.size) (h2 : base ≤ B) (h3 : Bn < B) (h4 : Bn < W0.heap.size) : OwnFrom B (HalfI base bx Bn W0 Y) := fun s X Z row ⟨ad, c, N, hN, hx, ho, hk⟩ hg hr =>
  ⟨ad, c, N, hN, blk_own (β := Unit) (f := fun _ => #[.slice ad N c]) () X Z row hx hg hr, ownT_own (β := Unit) (v := fun _ => .slice ad N c) (l := fun _ => (halfP Y s).reverse) () X Z row ho hg hr, edgeK_own (β := Unit) h1 h2 h3 h4 () X Z row hk hg hr⟩
def encY {n : Nat} (ix : Fin n → Nat) (Y : Fin n → Pt) (i : Fin n) : Array Value := #[.int .i64 (ix i : Int), .agg #[.int .i64 (Y i).1, .int .i64 (Y i).2]]
theorem cellsR_one {W : World} {g i : Nat} {v : Value} (hg : g < W.heap.size) (h : W.cell? ⟨g, i, none⟩ = some v) (d : Nat) (os : Array Obj) : (Sort.grow (redrawn W d) os).cell? ⟨g, i, none⟩ = some v := by rw [(below_regrown W d os).cell hg]; exact h
set_option maxRecDepth 20000 in
set_option maxHeartbeats 4000000 in
theorem plhalf_any (gf Bn n : Nat) (ix : Fin n → Nat) (Y : Fin n → Pt) (w : World) (hn : n ≤ 1000) (eg : ∀ args w, (callFunc gf args).run Tryz.prog w = .ok (.enter gf args) w) (hBn : Bn < w.heap.size) (hV : ∀ i, Vld (Y i).1 (Y i).2)
    (hseq : ∀ W, Below w.heap.size w W → SeqStopsK Fence.wide 4 Tryz.prog gf #[.pointer (some ⟨Bn, 0, none⟩)] (encY ix Y) (EdgeK w.heap.size Bn) (fun ys => ys = List.finRange n) (fun pre => True) n W) :
    Calls Tryz.prog 151 #[.func (.func gf) #[] #[.pointer (some ⟨Bn, 0, none⟩)]] w fun e w' => ∃ (ad : Option Addr) (c N : Nat), (halfR ((List.finRange n).map Y)).length = N ∧ e = .returned (.slice ad N c) ∧ OwnPt w.heap.size w' (.slice ad N c) (halfR ((List.finRange n).map Y)).reverse ∧ Below w.heap.size w w' := by
  have HV := Lib.hid hV
  have HS := Lib.hid hseq
  have EG := Lib.hid eg
  clear hV hseq eg
  refine (callsIn_wide (n := 5)).1 ?_
  refine callsIn_of_wp_marks Tryz.func151 rfl trivial ?_ rfl
  simp only [Tryz.ntmps151, List.append_toArray, List.cons_append, List.nil_append, List.size_toArray, List.length_cons, List.length_nil, Nat.reduceAdd, Nat.reduceSub, Array.replicate_succ, Array.replicate_zero, List.push_toArray]
  gi_wp2
  generalize hW0 : (World.alloc _ _) = W0
  have hs0 : W0.heap.size = w.heap.size + 1 := by subst hW0; simp
  obtain ⟨p1, hB0⟩ := box1 hW0.symm
  clear hW0
  have HB0 := Lib.hid hB0
  refine wpIn_rangeFunc_round (F := Fence.wide) (n := 5) rfl (by omega) (gf := gf) (lb := #[.pointer (some ⟨Bn, 0, none⟩)]) rfl trivial EG.out
    (HS.out W0 hB0)
    EdgeK.trans (edgeK_b (by omega) (by omega)) (Below.refl _ _) (fun _ => rfl)
    (HalfI w.heap.size w.heap.size Bn W0 Y) (fun _ _ _ => False) (halfI_own (by omega) (by omega) (by omega) (by omega)) (fun c s W W' row h _ _ => h.elim)
    ⟨none, 0, 0, rfl, p1, OwnPt.nil _ _, EdgeK.refl _ _ _⟩ ?round ?done ?stop
  case round =>
    clear p1
    rintro l1 pre x W ⟨ad1, c1, N1, hN1, q1, how1, hK1⟩
    have hsW := hK1.below.size
    obtain ⟨⟨qx, qy⟩, hx⟩ : ∃ y, Y x = y := ⟨_, rfl⟩
    have HX := Lib.hid hx
    have hvx := HV.out x
    rw [hx] at hvx
    have VX := Lib.hid (show Vld qx qy from hvx)
    unfold encY
    rw [hx]
    clear hx hvx
    dsimp only
    gi_wp2
    have hbl := (Below.refl W.heap.size W).alloc (Nat.le_refl _) (.cells #[.int .i64 qx, .int .i64 qy] 28)
    have hek := EdgeK.of_below (n₀ := w.heap.size) (Bn := Bn) hbl (by omega) (by omega)
    refine ⟨(KeepsOthers.alloc _ _).from _, hek, ⟨ad1, c1, N1, hN1, block_later hbl q1, how1.keep hbl, hK1.trans hek⟩, ?_⟩
    clear q1 how1 hN1
    rintro l2 pre2 W2 hT hl2 hr2 ⟨ad2, c2, N2, hN2, q2, how2, hK2⟩ hlen
    have hbx := hT.cs (block_new W (.cells #[.int .i64 qx, .int .i64 qy] 28))
    have hsz2 : W.heap.size + 1 ≤ W2.heap.size := by have := hT.size; simpa using this
    have MM : Hid (∀ z ∈ halfP Y pre2, Vld z.1 z.2) := Lib.hid (fun z hz => by obtain ⟨i, rfl⟩ := halfP_mem Y pre2 z hz; exact HV.out i)
    have hl1000 : N2 ≤ 1000 := by have := halfP_len Y pre2; omega
    have SN := Lib.hid (halfP_snoc Y pre2 x)
    obtain ⟨st0, hst0⟩ : ∃ st, halfP Y pre2 = st := ⟨_, rfl⟩
    rw [hst0] at hN2 how2 MM SN
    rw [HX.out] at SN
    clear hst0
    have HOW := Lib.hid how2
    have K2 := Lib.hid hK2
    have Q2 := Lib.hid q2
    have BX := Lib.hid hbx
    have hN2' := Lib.hid hN2
    have s0 := cell_block q2
    clear how2 hK2 q2 hT hbx hbl hek hN2
    gi_wp2
    clear s0
    gi_loopw [6] (fun t wr => ∃ (st : List Pt) (ad : Option Addr) (c N : Nat), t = .int .i64 N ∧ st.length = N ∧ N ≤ 1000 ∧ popR (qx, qy) st = popR (qx, qy) st0 ∧ (∀ z ∈ st, Vld z.1 z.2) ∧ wr.heap[w.heap.size]? = some (.cells #[.slice ad N c] 29 (0, 0)) ∧ OwnPt w.heap.size wr (.slice ad N c) st.reverse ∧ KeepsFrom W0.heap.size W2 wr ∧ EdgeK w.heap.size Bn W2 wr ∧ wr.heap[W.heap.size]? = some (.cells #[.int .i64 qx, .int .i64 qy] 28 (0, 0))) (fun t _ => (Go.RowKit.intOf t).toNat)
    case atStart => exact ⟨st0, ad2, c2, N2, rfl, hN2'.out, hl1000, rfl, MM.out, Q2.out, HOW.out, KeepsFrom.refl _ _, EdgeK.refl _ _ _, BX.out⟩
    case round =>
      clear HOW Q2 BX hN2' hl1000
      obtain ⟨st, ad, c, N, rfl, hN, hN1000, hpp, hvm, hqb, how, hkf, hek, hbx⟩ := hrel
      have LN := Lib.hid hN
      have PP := Lib.hid hpp
      have VM := Lib.hid hvm
      have QB := Lib.hid hqb
      have HO := Lib.hid how
      have KF := Lib.hid hkf
      have EK := Lib.hid hek
      have BX2 := Lib.hid hbx
      have hsr := hek.below.size
      clear hN hpp hvm hqb how hkf hek hbx
      by_cases h1 : 1 < N
      rotate_left
      · have PS : Hid (popR (qx, qy) st = st) := Lib.hid (by
          have := LN.out
          match st, this with
          | [], _ => rfl
          | [_], _ => rfl
          | _ :: _ :: _, h => simp at h; omega)
        have d1 : decide ((1 : Int) < (N : Int)) = false := by simp; omega
        have d2 : (N : Int) ≤ 1 := by omega
        clear h1
        gi_wp2
        refine wpIn_region_plan (.take 0 (.take 0 (.take 0 (.take 0 (.take 0 (.take 0 (.take 0 (.take 0 (.take 0 (.take 0 (.take 0 (.take 0 (.take 0 (.take 0 (.only 0 (.take 0 (.take 0 .done))))))))))))))))) (by kernel_rfl) (by kernel_rfl) (by kernel_rfl) (fun hP => ?_)
        repeat' (first
          | (refine wpPlan_take rfl (fun K hK => ?_); replace hK := Lib.hid hK; go_simp; first | (refine hK.out _ ?_; clear hK K) | (apply Exists.intro; refine ⟨fun _ => ?_, hK.out _ ?_⟩; (first | with_reducible exact rfl | skip); clear hK K))
          | (refine wpPlan_only rfl (fun K hK => ?_); replace hK := Lib.hid hK; (first | go_simp | skip); refine hK.out _ _ (by first | assumption | exact hP.drew) (fun hP => ?_); clear hK K))
        all_goals refine wpPlan_doneN ?_
        refine onlyN_named fun WX hWX => ?_
        rw [← hWX] at hP
        clear hWX
        have HX := Lib.hid hP
        have qX := block_later hP QB.out
        have x0 := cell_block qX
        have b5 := cell_block (block_later hP BX2.out)
        have HOX := Lib.hid (HO.out.keep hP)
        have QX := Lib.hid qX
        have KX := Lib.hid (KF.out.trans (keeps_below (B := W0.heap.size) hP))
        have EX := Lib.hid (EK.out.trans (EdgeK.of_below (n₀ := w.heap.size) (Bn := Bn) hP (by omega) (by omega)))
        have hsX := hP.size
        clear qX
        gi_wp2_with (gi_at_builtin; generalize hwn : World.alloc _ _ = wA; obtain ⟨pA, hbA⟩ := box1 hwn.symm; clear hwn; have hsA := hbA.size; have HA := HOX.out.keep hbA; have qA := block_later hbA QX.out; refine wpListIn_appT pCells_len (by omega) Tryz.underlying29 info_pt rfl rfl _ _ rfl w.heap.size _ st.reverse [(qx, qy)] rfl HA _ 1 1 rfl rfl (SrcAt.one pA rfl) (pts_one _) (by rw [List.length_reverse, LN.out]) (by unfold maxLen; omega) (by omega) (by omega) ?_; intro ad3 c3 w3 hown3 hg3 hb3; have q3 := (hg3.block w.heap.size (by omega) (own_ne HA qA (by decide))).trans qA; have z0 := cell_block q3; have z1 := free_block q3; have Q3 := Lib.hid q3; have HG3 := Lib.hid hg3; have HO3 := Lib.hid hown3; have HB3 := Lib.hid hb3; have HAA := Lib.hid HA; have HBA := Lib.hid hbA; clear q3 hg3 hown3 hb3 HA hbA qA pA)
        have hs3 := HB3.out.size
        have hb1 : w3.heap[Bn]? = WX.heap[Bn]? := (HG3.out.block Bn (by have := HBA.out.size; omega) (fun e => by obtain ⟨_, _, h⟩ := OwnT.cells HAA.out Bn e.symm; omega)).trans (HBA.out.block Bn (by omega))
        have hek : EdgeK w.heap.size Bn WX w3 := ⟨(HBA.out.mono (by omega)).trans HB3.out, hb1⟩
        have SN2 : Hid (halfP Y (pre2 ++ [x]) = (qx, qy) :: st) := Lib.hid (by rw [SN.out, ← PP.out, PS.out])
        refine ⟨((KX.out.trans ((KeepsOthers.of_grownBy (row := none) (grownBy_of_below' HBA.out) (fun j o h _ => by cases h)).from _)).trans (OwnT.keeps HAA.out HG3.out)).trans ((KeepsOthers.setCell _ _ _).from _), (EX.out.trans hek).trans (EdgeK.set _ _ _ (by omega) (by omega)), ad3, c3, N + 1, by rw [SN2.out, List.length_cons, LN.out], block_set Q3.out _, ?_, (K2.out.trans (EX.out.trans hek)).trans (EdgeK.set _ _ _ (by omega) (by omega))⟩
        rw [SN2.out, List.reverse_cons]
        exact own_set HO3.out (own_ne HO3.out Q3.out (by decide)) _
      · obtain ⟨tt, uu, rr, rfl⟩ : ∃ tt uu rr, st = tt :: uu :: rr := by
          have := LN.out
          match st, this with
          | [], h => simp at h; omega
          | [_], h => simp at h; omega
          | a :: b :: r, _ => exact ⟨a, b, r, rfl⟩
        obtain ⟨tx, ty⟩ := tt
        obtain ⟨ux, uy⟩ := uu
        obtain ⟨p, hp⟩ : ∃ p, rr.length = p := ⟨_, rfl⟩
        have hNp : N = p + 2 := by have := LN.out; simp at this; omega
        obtain ⟨p1, hp1⟩ : ∃ p1, p + 1 = p1 := ⟨_, rfl⟩
        have RL := Lib.hid hp
        obtain ⟨gg, rfl, hgg, hcells⟩ := OwnT.cell pCells_len (0, 0) HO.out (by rw [List.length_reverse]; exact LN.out) (by omega)
        have hrev : ((tx, ty) :: (ux, uy) :: rr).reverse = rr.reverse ++ [(ux, uy), (tx, ty)] := by simp
        have g0 : ((tx, ty) :: (ux, uy) :: rr).reverse.getD p (0, 0) = (ux, uy) := by
          rw [hrev, List.getD_eq_getElem?_getD, List.getElem?_append_right (by rw [List.length_reverse, hp]; omega), List.length_reverse, hp, Nat.sub_self]
          rfl
        have g1 : ((tx, ty) :: (ux, uy) :: rr).reverse.getD p1 (0, 0) = (tx, ty) := by
          rw [← hp1, hrev, List.getD_eq_getElem?_getD, List.getElem?_append_right (by rw [List.length_reverse, hp]; omega), List.length_reverse, hp, show p + 1 - p = 1 by omega]
          rfl
        have k0 := hcells p (by omega) 0 (by omega)
        have k1 := hcells p (by omega) 1 (by omega)
        have k2 := hcells p1 (by omega) 0 (by omega)
        have k3 := hcells p1 (by omega) 1 (by omega)
        rw [g0] at k0 k1
        rw [g1] at k2 k3
        have hgs : gg < wr.heap.size := by
          obtain ⟨cs, h, _⟩ := OwnT.cells HO.out gg rfl
          exact lt_block h
        have m0 := cellsR_one hgs (show wr.cell? ⟨gg, p * 2, none⟩ = some (.int .i64 ux) by simpa [pCells] using k0)
        have m1 := cellsR_one hgs (show wr.cell? ⟨gg, p * 2 + 1, none⟩ = some (.int .i64 uy) by simpa [pCells] using k1)
        have m2 := cellsR_one hgs (show wr.cell? ⟨gg, p1 * 2, none⟩ = some (.int .i64 tx) by simpa [pCells] using k2)
        have m3 := cellsR_one hgs (show wr.cell? ⟨gg, p1 * 2 + 1, none⟩ = some (.int .i64 ty) by simpa [pCells] using k3)
        have b3 := cellsR QB.out
        have b5 := cellsR BX2.out
        clear k0 k1 k2 k3 g0 g1 hrev hcells hp
        have vt := VM.out (tx, ty) (by simp)
        have vu := VM.out (ux, uy) (by simp)
        have VT := Lib.hid (show Vld tx ty from vt)
        have VU := Lib.hid (show Vld ux uy from vu)
        obtain ⟨sg, hsg⟩ : ∃ sg, (crs ux uy tx ty qx qy).sign = sg := ⟨_, rfl⟩
        have SG := Lib.hid hsg
        clear vt vu hsg
        have j1 : (N : Int) - 2 = (p : Int) := by omega
        have j2 : (N : Int) - 1 = (p1 : Int) := by omega
        have j5 : IntKind.i64.wrap (p : Int) = (p : Int) := IntWalk.i64_in _ (by omega)
        have j6 : IntKind.i64.wrap (p1 : Int) = (p1 : Int) := IntWalk.i64_in _ (by omega)
        have d1 : decide ((1 : Int) < (N : Int)) = true := decide_eq_true (by omega)
        have l1 : p < N := by omega
        have l2 : p1 < N := by omega
        have HNP := Lib.hid hNp
        have HP1 := Lib.hid hp1
        clear hNp hp1
        gi_wp2
        refine wpIn_region_plan (.take 0 (.take 0 (.take 0 (.take 0 (.take 0 (.take 0 (.take 0 (.take 0 (.take 0 (.take 0 (.take 0 (.take 0 (.take 0 (.take 0 (.only 0 (.take 0 (.take 0 .done))))))))))))))))) (by kernel_rfl) (by kernel_rfl) (by kernel_rfl) (fun hP => ?_)
        repeat' (first
          | (refine wpPlan_take rfl (fun K hK => ?_); replace hK := Lib.hid hK; go_simp; first | (refine hK.out _ ?_; clear hK K) | (apply Exists.intro; refine ⟨fun _ => ?_, hK.out _ ?_⟩; (first | with_reducible exact rfl | skip); clear hK K))
          | (refine wpPlan_only rfl (fun K hK => ?_); replace hK := Lib.hid hK; go_simp; go_at_call 232; (with_reducible refine (plturn_any _ _ _ _ _ _ _ VU.out VT.out VX.out SG.out).mono ?_); rintro e w9 ⟨rfl, hbx⟩; refine hK.out _ _ (by exact below_step hP hbx) (fun hP => ?_); clear hK K))
        all_goals refine wpPlan_doneN ?_
        refine onlyN_named fun WX hWX => ?_
        rw [← hWX] at hP
        clear hWX m0 m1 m2 m3 b3 b5 j1 j5 l1 l2
        have hNc : N ≤ c := own_cap HO.out _ _ _ rfl
        have hszP := hP.size
        have hrev : ((tx, ty) :: (ux, uy) :: rr).reverse = ((ux, uy) :: rr).reverse ++ [(tx, ty)] := List.reverse_cons ..
        have HREV := Lib.hid hrev
        clear hrev
        have hqb := lt_block QB.out
        by_cases hs : sg ≤ 0
        · have hcr : crsP (ux, uy) (tx, ty) (qx, qy) ≤ 0 := Int.not_lt.1 fun h => by
            have h2 : (crs ux uy tx ty qx qy).sign = 1 := Int.sign_eq_one_of_pos h
            rw [SG.out] at h2
            omega
          have PP2 : Hid (popR (qx, qy) ((ux, uy) :: rr) = popR (qx, qy) st0) := Lib.hid (by
            rw [← PP.out]
            conv => rhs; unfold popR
            rw [if_pos hcr])
          have qX := block_later hP QB.out
          have x0 := cell_block qX
          have x1 := free_block qX
          have QX := Lib.hid qX
          have d2 : decide (sg ≤ 0) = true := decide_eq_true hs
          have hp1c : p1 ≤ c := by have := HNP.out; have := HP1.out; omega
          have LL : Hid (((ux, uy) :: rr).length = p1) := Lib.hid (by rw [List.length_cons, RL.out]; exact HP1.out)
          have OC : Hid (OwnPt w.heap.size WX (.slice (some ⟨gg, 0, none⟩) p1 c) ((ux, uy) :: rr).reverse) := Lib.hid (by
            have h := HO.out.keep hP
            rw [HREV.out] at h
            have h2 := OwnPt.cut h (by rw [List.length_reverse, LL.out]; have := HNP.out; have := HP1.out; omega)
            rwa [show N - 1 = p1 by have := HNP.out; have := HP1.out; omega] at h2)
          have hown := own_ne HO.out QB.out (by decide)
          have HOWN := Lib.hid hown
          clear hcr qX hown
          gi_wp2
          go_roundw
          case rel => exact ⟨(ux, uy) :: rr, some ⟨gg, 0, none⟩, c, p1, rfl, LL.out, by have := HNP.out; have := HP1.out; omega, PP2.out, fun z hz => VM.out z (List.mem_cons_of_mem _ hz), block_set QX.out _, own_set OC.out HOWN.out _, (KF.out.trans (keeps_below hP)).trans ((KeepsOthers.setCell _ _ _).from _), (EK.out.trans (EdgeK.of_below hP (by omega) (by omega))).trans (EdgeK.set _ _ _ (by omega) (by omega)), block_far (block_later hP BX2.out) (by dsimp only; omega) _⟩
          case measure => simp [Go.RowKit.intOf]; have := HNP.out; have := HP1.out; omega
        · have hcr : ¬ crsP (ux, uy) (tx, ty) (qx, qy) ≤ 0 := fun h => by
            have h2 : (crs ux uy tx ty qx qy).sign ≤ 0 := by
              rcases Int.lt_trichotomy (crs ux uy tx ty qx qy) 0 with h3 | h3 | h3
              · rw [Int.sign_eq_neg_one_of_neg h3]; omega
              · rw [h3]; decide
              · have h4 : crs ux uy tx ty qx qy ≤ 0 := h
                omega
            rw [SG.out] at h2
            exact hs h2
          obtain ⟨st, hst⟩ : ∃ st, (tx, ty) :: (ux, uy) :: rr = st := ⟨_, rfl⟩
          have PS : Hid (popR (qx, qy) st = st) := Lib.hid (by rw [← hst]; unfold popR; rw [if_neg hcr])
          rw [hst] at LN PP VM HO
          have d2 : decide (sg ≤ 0) = false := decide_eq_false hs
          have d3 : 0 < sg := by omega
          clear hs hcr hst
          have HX := Lib.hid hP
          have qX := block_later hP QB.out
          have x0 := cell_block qX
          have b5 := cell_block (block_later hP BX2.out)
          have HOX := Lib.hid (HO.out.keep hP)
          have QX := Lib.hid qX
          have KX := Lib.hid (KF.out.trans (keeps_below (B := W0.heap.size) hP))
          have EX := Lib.hid (EK.out.trans (EdgeK.of_below (n₀ := w.heap.size) (Bn := Bn) hP (by omega) (by omega)))
          have hsX := hP.size
          clear qX
          gi_wp2_with (gi_at_builtin; generalize hwn : World.alloc _ _ = wA; obtain ⟨pA, hbA⟩ := box1 hwn.symm; clear hwn; have hsA := hbA.size; have HA := HOX.out.keep hbA; have qA := block_later hbA QX.out; refine wpListIn_appT pCells_len (by omega) Tryz.underlying29 info_pt rfl rfl _ _ rfl w.heap.size _ st.reverse [(qx, qy)] rfl HA _ 1 1 rfl rfl (SrcAt.one pA rfl) (pts_one _) (by rw [List.length_reverse, LN.out]) (by unfold maxLen; omega) (by omega) (by omega) ?_; intro ad3 c3 w3 hown3 hg3 hb3; have q3 := (hg3.block w.heap.size (by omega) (own_ne HA qA (by decide))).trans qA; have z0 := cell_block q3; have z1 := free_block q3; have Q3 := Lib.hid q3; have HG3 := Lib.hid hg3; have HO3 := Lib.hid hown3; have HB3 := Lib.hid hb3; have HAA := Lib.hid HA; have HBA := Lib.hid hbA; clear q3 hg3 hown3 hb3 HA hbA qA pA)
          have hs3 := HB3.out.size
          have hb1 : w3.heap[Bn]? = WX.heap[Bn]? := (HG3.out.block Bn (by have := HBA.out.size; omega) (fun e => by obtain ⟨_, _, h⟩ := OwnT.cells HAA.out Bn e.symm; omega)).trans (HBA.out.block Bn (by omega))
          have hek : EdgeK w.heap.size Bn WX w3 := ⟨(HBA.out.mono (by omega)).trans HB3.out, hb1⟩
          have SN2 : Hid (halfP Y (pre2 ++ [x]) = (qx, qy) :: st) := Lib.hid (by rw [SN.out, ← PP.out, PS.out])
          refine ⟨((KX.out.trans ((KeepsOthers.of_grownBy (row := none) (grownBy_of_below' HBA.out) (fun j o h _ => by cases h)).from _)).trans (OwnT.keeps HAA.out HG3.out)).trans ((KeepsOthers.setCell _ _ _).from _), (EX.out.trans hek).trans (EdgeK.set _ _ _ (by omega) (by omega)), ad3, c3, N + 1, by rw [SN2.out, List.length_cons, LN.out], block_set Q3.out _, ?_, (K2.out.trans (EX.out.trans hek)).trans (EdgeK.set _ _ _ (by omega) (by omega))⟩
          rw [SN2.out, List.reverse_cons]
          exact own_set HO3.out (own_ne HO3.out Q3.out (by decide)) _
  case done =>
    rintro D xs W hD rfl ⟨ad1, c1, N1, hN1, q1, how1, hK1⟩ hdef
    have HD := Lib.hid hdef
    have HOW := Lib.hid how1
    have K := Lib.hid hK1
    have s0 := cell_block q1
    clear hdef how1 hK1
    gi_wp2
    refine ⟨by simp, .inl ⟨_, _, rfl, run_takeDeferred HD.out, ?_⟩⟩
    refine ⟨.slice ad1 N1 c1, by simp [results, Tryz.results151, go_sem], ad1, c1, N1, hN1, rfl, ?_, ?_⟩
    · exact (ownT_own (β := Unit) (B := W0.heap.size) (v := fun _ => .slice ad1 N1 c1) (l := fun _ => (halfP Y (List.finRange n)).reverse)).putObj _ (s := ()) HOW.out hD HD.out rfl
    · exact HB0.out.trans (K.out.below.trans (belowK_b (w := W0) (by omega) _ D _ _ hD HD.out rfl rfl))
  case stop =>
    rintro D c pre W _ _ h _
    exact h.elim
end Go.Proofs.YtdmegkkifiahdaaGreat
/- The walks of poly.Hull: slices.Clone of places, and slices.SortFunc of them by the kit's contract. -/
namespace Go.Proofs
open Go.RowKit Go.Sort Go.Shelf
shelf_lay_g SlLaysF0.n6 Slsf 6 at Tryz 148 as Tryz.sortPt
end Go.Proofs
namespace Go.Proofs.YtdmegkkifiahdaaGreat
open Go.RowKit Go.Shelf Go.Sort
attribute [local go_sem] bqOp bqAll bqUpon sqOp sqAll sqUpon ssAll ssOp
attribute [local irreducible] wpQuiet wpBQ wpPlan wsPlan
set_option linter.unusedVariables false
theorem pts_src {w : World} {ad : Option Addr} {n c : Nat} {l : List Pt} (h : PtsAt w (.slice ad n c) l) : SrcAt pCells w ad l :=
  srcAt_of pCells_len (0, 0) fun i hi => by
    obtain ⟨ad', c', e, hn, hr⟩ := h.rows
    cases e
    obtain ⟨g, o, hg, hc⟩ := hr i hi
    refine ⟨g, o, hg, fun j hj => ?_⟩
    rw [hc j hj]
    match j, hj with
    | 0, _ => rfl
    | 1, _ => rfl
set_option maxRecDepth 20000 in
set_option maxHeartbeats 1000000 in
theorem clPts_any (l : List Pt) (ad : Option Addr) (n c : Nat) (w : World) (h : PtsAt w (.slice ad n c) l) (hn : l.length = n) (h0 : 0 < n) (h200 : n ≤ 1000) :
    Calls Tryz.prog 127 #[.slice ad n c] w fun e w' => ∃ (g c' : Nat), e = .returned (.slice (some ⟨g, 0, none⟩) n c') ∧ OwnPt w.heap.size w' (.slice (some ⟨g, 0, none⟩) n c') l ∧ Below w.heap.size w w' := by
  have hs := pts_src h
  have HN := Lib.hid hn
  have hr : Rows 2 w (.slice ad n c) n (ptX l) := by have := h.rows; rwa [hn] at this
  obtain ⟨g, o, rfl, _⟩ := hr.row h0
  have HS := Lib.hid hs
  have q29 : ∀ (w : World) (a : Option Addr) (n c n' c' : Nat), (binOp .eql 29 (.slice a n c) (.slice none n' c')).run Tryz.prog w = .ok (.bool a.isNone) w := fun w a n c n' c' => Lib.run_eql_slice_nil w _ _ a n c n' c' Tryz.underlying29
  clear h hs hr hn
  go_enter Tryz.func127, Tryz.ntmps127
  go_wp2_with (at_builtin; generalize hwn : World.alloc _ _ = wA; obtain ⟨pA, hbA⟩ := box1 hwn.symm; have OW : OwnPt w.heap.size wA (.slice (some ⟨w.heap.size, 0, none⟩) 0 0) [] := (by rw [← hwn]; exact World.ownsRow_made w #[] 0 (Nat.le_refl _) (Nat.zero_le _) (by simp)); clear hwn; have hsA := hbA.size; refine wpList_appT pCells_len (by omega) Tryz.underlying29 info_pt rfl rfl _ _ rfl w.heap.size _ [] l rfl OW _ n c rfl HN.out (HS.out.later hbA) (pts_one _) (by rw [List.length_nil, Nat.zero_add]) (by unfold maxLen; omega) (by omega) (by omega) ?_; intro ad3 c3 w3 hown3 hg3 hb3)
  have H3 := Lib.hid hown3
  clear hown3
  go_wp2
  go_returns
  have h3 := H3.out
  rw [List.nil_append] at h3
  rcases h3.2 with ⟨e, h⟩ | ⟨g', cap, cur, e, _⟩
  · rw [HN.out] at h
    omega
  · cases e
    exact ⟨g', c3, rfl, h3, hbA.trans hb3⟩
theorem cmp_same (x y : Int) (w : World) {v : Int} (hv : cmpI x y = v) :
    Calls Tryz.prog 225 #[.int .i64 x, .int .i64 y] w fun e w' => e = .returned (.int .i64 v) ∧ w' = w := by
  have HV := Lib.hid hv
  clear hv
  go_enter Tryz.func225, Tryz.ntmps225
  go_wp2
  · go_returns
    exact ⟨ret_int (by rw [← HV.out]; unfold cmpI; rw [if_pos (by assumption)]), rfl⟩
  · go_returns
    exact ⟨ret_int (by rw [← HV.out]; unfold cmpI; rw [if_neg (by omega), if_pos (by assumption)]), rfl⟩
  · go_returns
    exact ⟨ret_int (by rw [← HV.out]; unfold cmpI; rw [if_neg (by omega), if_neg (by omega)]), rfl⟩
theorem cmpOr_same (p q : Int) (b c : Nat) (w : World) (h : w.heap[b]? = some (.cells #[.int .i64 p, .int .i64 q] 3 (0, 0))) {v : Int} (hv : (if p = 0 then q else p) = v) :
    Calls Tryz.prog 240 #[.slice (some ⟨b, 0, none⟩) 2 c] w fun e w' => e = .returned (.int .i64 v) ∧ w' = w := by
  have HV := Lib.hid hv
  have c0 := cell_block h 0
  have c1 := cell_block h 1
  clear hv h
  go_enter Tryz.func240, Tryz.ntmps240
  go_wp2
  go_loop [8] (fun i => ∃ k : Nat, k ≤ 2 ∧ i = .int .i64 k ∧ (0 < k → p = 0) ∧ (1 < k → q = 0)) (fun i => 2 - (Go.RowKit.intOf i).toNat)
  case atStart => exact ⟨0, by omega, rfl, fun h => by omega, fun h => by omega⟩
  case round =>
    obtain ⟨k, hk, rfl, h1, h2⟩ := hrel
    rcases Nat.lt_or_ge k 2 with hlt | hge
    · rcases Nat.lt_or_ge k 1 with h0 | h0
      · obtain rfl : k = 0 := by omega
        clear h1 h2
        by_cases hp : p = 0
        · have HP := Lib.hid hp
          have d : (p != 0) = false := by simp [hp]
          clear hp
          go_wp2
          go_round
          case rel => exact ⟨1, by omega, rfl, fun _ => HP.out, fun h => by omega⟩
          case measure => simp [Go.RowKit.intOf]
        · have d : (p != 0) = true := by simp [hp]
          have HP := Lib.hid hp
          clear hp
          go_wp2
          go_returns
          exact ⟨ret_int (by rw [← HV.out, if_neg HP.out]), rfl⟩
      · obtain rfl : k = 1 := by omega
        have HP := Lib.hid (h1 (by omega))
        clear h1 h2
        by_cases hq : q = 0
        · have HQ := Lib.hid hq
          have d : (q != 0) = false := by simp [hq]
          clear hq
          go_wp2
          go_round
          case rel => exact ⟨2, by omega, rfl, fun _ => HP.out, fun h => HQ.out⟩
          case measure => simp [Go.RowKit.intOf]
        · have d : (q != 0) = true := by simp [hq]
          clear hq
          go_wp2
          go_returns
          exact ⟨ret_int (by rw [← HV.out, if_pos HP.out]), rfl⟩
    · obtain rfl : k = 2 := by omega
      have HP := Lib.hid (h1 (by omega))
      have HQ := Lib.hid (h2 (by omega))
      clear h1 h2
      go_wp2
      go_returns
      exact ⟨ret_int (by rw [← HV.out, if_pos HP.out, HQ.out]), rfl⟩
/-- A world that has but grown. -/
def GrowN (W w : World) : Prop := ∃ (q : Nat) (os : Array Obj), w = grow (W.drewN q) os
theorem GrowN.drew0 {W : World} : GrowN W W.drew := ⟨1, #[], by rw [grow_empty]; rfl⟩
theorem GrowN.drew {W w : World} (h : GrowN W w) : GrowN W w.drew := by
  obtain ⟨q, os, rfl⟩ := h
  exact ⟨q + 1, os, rfl⟩
theorem GrowN.alloc {W w : World} (h : GrowN W w) (o : Obj) : GrowN W (w.alloc o) := by
  obtain ⟨q, os, rfl⟩ := h
  exact ⟨q, os ++ #[o], by rw [alloc_eq_grow, grow_grow]⟩
theorem GrowN.trans {A B C : World} (h : GrowN A B) (k : GrowN B C) : GrowN A C := by
  obtain ⟨q, os, rfl⟩ := h
  obtain ⟨r, ps, rfl⟩ := k
  exact ⟨q + r, os ++ ps, by unfold grow World.drewN; simp only [Array.append_assoc, Nat.add_assoc]⟩
theorem GrowN.below {W w : World} (h : GrowN W w) : Below W.heap.size W w := by
  obtain ⟨q, os, rfl⟩ := h
  exact ⟨rfl, rfl, rfl, by simp [grow, World.drewN], fun k hk => by
    show (W.heap ++ os)[k]? = W.heap[k]?
    rw [Array.getElem?_append_left hk]⟩
set_option maxHeartbeats 1000000 in
theorem plorder_grown (ax ay bx by' : Int) (w : World) {v : Int} (hv : ordI ax ay bx by' = v) :
    Calls Tryz.prog 149 #[.agg #[.int .i64 ax, .int .i64 ay], .agg #[.int .i64 bx, .int .i64 by']] w fun e w' => e = .returned (.int .i64 v) ∧ GrowN w w' := by
  have HO := Lib.hid (show (if cmpI ax bx = 0 then cmpI ay by' else cmpI ax bx) = v from hv)
  clear hv
  go_enter Tryz.func149, Tryz.ntmps149
  go_wp2_with fail
  refine wp_named fun W hW => ?_
  have HG : Hid (GrowN w W) := Lib.hid (by rw [hW]; exact GrowN.alloc (GrowN.alloc (⟨0, #[], by rw [grow_empty]; rfl⟩ : GrowN w w) _) _)
  obtain ⟨p1, p2, hB⟩ := box2 hW
  clear hW
  have F1 : ∀ w', GrowN W w' → ∀ i, w'.cell? ⟨w.heap.size, i, none⟩ = #[.int .i64 ax, .int .i64 ay][i]? := fun w' hw i => cell_block (block_later hw.below p1) i
  have F2 : ∀ w', GrowN W w' → ∀ i, w'.cell? ⟨w.heap.size + 1, i, none⟩ = #[.int .i64 bx, .int .i64 by'][i]? := fun w' hw i => cell_block (block_later hw.below p2) i
  clear p1 p2 hB
  refine wp_region_planS (GrowN W) (.take 0 (.take 0 (.take 0 (.take 0 (.take 1 (.take 1 (.take 1 (.take 1 (.only 0 (.only 0 (.only 0 (.only 0 (.take 0 .done))))))))))))) (by kernel_rfl) (by kernel_rfl) GrowN.drew0 (fun hP => ?_)
  repeat' (first
    | (refine wsPlan_take rfl (fun K hK => ?_); replace hK := Lib.hid hK; go_simp; first | (refine hK.out _ ?_; clear hK K) | (apply Exists.intro; refine ⟨fun w' hw => ?_, hK.out _ ?_⟩; (first | with_reducible exact rfl | (have f1 := F1 w' hw; have f2 := F2 w' hw; go_simp; exact rfl)); clear hK K))
    | (refine wsPlan_only rfl (fun K hK => ?_); replace hK := Lib.hid hK; (first | (go_simp; first | (go_at_call 225; refine (cmp_same _ _ _ rfl).mono ?_; rintro e w2 ⟨rfl, rfl⟩) | (go_at_call 240; refine (cmpOr_same _ _ W.heap.size _ _ (by exact block_new W _) HO.out).mono ?_; rintro e w2 ⟨rfl, rfl⟩) | skip)); refine hK.out _ _ (by first | assumption | exact hP.drew | exact hP.alloc _) (fun hP => ?_); clear hK K))
  all_goals refine wsPlan_done ?_
  clear F1 F2
  go_wp2_with fail
  go_returns
  exact ⟨rfl, HG.out.trans hP⟩
def ptOrd (x y : Pt) : Int := ordI x.1 x.2 y.1 y.2
theorem lt_ptOrd (x y : Pt) : ltOf ptOrd x y = decide (x.1 < y.1 ∨ x.1 = y.1 ∧ x.2 < y.2) := by
  unfold ltOf ptOrd
  rw [decide_eq_decide, ord_lt]
  exact Iff.rfl
theorem swo_pt : SWO (ltOf ptOrd) where
  irrefl x := by rw [lt_ptOrd]; simp
  trans x y z h1 h2 := by
    rw [lt_ptOrd, decide_eq_true_eq] at *
    omega
  ntrans x y z h1 h2 := by
    rw [lt_ptOrd, decide_eq_false_iff_not] at *
    omega
theorem lots_pt (x y : Pt) (h1 : ltOf ptOrd x y = false) (h2 : ltOf ptOrd y x = false) : x = y := by
  rw [lt_ptOrd, decide_eq_false_iff_not] at *
  obtain ⟨x1, x2⟩ := x
  obtain ⟨y1, y2⟩ := y
  dsimp only at h1 h2
  rw [Prod.mk.injEq]
  omega
theorem le_ptOrd : (fun x y : Pt => !(ltOf ptOrd) y x) = lePt := by
  funext x y
  rw [lt_ptOrd]
  unfold lePt
  rw [Bool.eq_iff_iff, Bool.not_eq_true', decide_eq_false_iff_not, decide_eq_true_eq]
  omega
instance : Inhabited Pt := ⟨(0, 0)⟩
theorem flatK_pts (l : List Pt) : (flatK pCells 2 l.toArray).toList = l.flatMap pCells := by
  apply List.ext_getElem?
  intro t
  rcases Nat.lt_or_ge t (l.length * 2) with h | h
  · have e1 := flat_get pCells 2 pCells_len (0, 0) l (t / 2) (t % 2) (by omega) (by omega)
    rw [show t / 2 * 2 + t % 2 = t by omega] at e1
    rw [e1, Array.getElem?_toList, Array.getElem?_eq_getElem (by simpa using h)]
    have e2 := get_flatK pCells 2 l.toArray t (by simpa using h)
    rw [getElem!_pos (flatK pCells 2 l.toArray) t (by simpa using h)] at e2
    rw [e2]
    have e3 : (l.toArray)[t / 2]! = l.getD (t / 2) (0, 0) := by
      rw [getElem!_pos l.toArray (t / 2) (by simp; omega), List.getD_eq_getElem?_getD, List.getElem?_eq_getElem (by omega)]
      simp
    rw [e3]
    have hlt : t % 2 < (pCells (l.getD (t / 2) (0, 0))).length := by rw [pCells_len]; omega
    rw [getElem!_pos (pCells (l.getD (t / 2) (0, 0))) (t % 2) hlt, List.getElem?_eq_getElem hlt]
  · rw [List.getElem?_eq_none (by simp; omega), List.getElem?_eq_none (by rw [flat_len pCells_len]; exact h)]
theorem holds_pts {base g c n : Nat} {w : World} {l : List Pt} (h : OwnPt base w (.slice (some ⟨g, 0, none⟩) n c) l) (hn : l.length = n) : HoldsK pCells 2 w g 0 l.toArray := by
  subst hn
  rcases h.2 with ⟨e, _⟩ | ⟨g', cap, cur, e, hg, hh, hnc, hcm, hcs, ht⟩
  · cases e
  · cases e
    intro j hj
    have hj2 : j < l.length * 2 := by simpa using hj
    refine ⟨?_, free_block hh _⟩
    rw [cell_block hh, Nat.zero_add]
    have e1 : cur[j]? = (cur.toList.take (l.length * 2))[j]? := by
      rw [List.getElem?_take_of_lt hj2, Array.getElem?_toList]
    rw [e1, ht, ← flatK_pts, Array.getElem?_toList, getElem!_pos (flatK pCells 2 l.toArray) j hj, Array.getElem?_eq_getElem hj]
    rfl
theorem take_ext {α : Type} {a : List α} {b : List α} {n : Nat} (hb : b.length = n) (h : ∀ j, j < n → a[j]? = b[j]?) : a.take n = b := by
  apply List.ext_getElem?
  intro j
  rcases Nat.lt_or_ge j n with hj | hj
  · rw [List.getElem?_take_of_lt hj, h j hj]
  · rw [List.getElem?_eq_none (by simp; omega), List.getElem?_eq_none (by omega)]
/-- What the sort leaves. -/
theorem own_sorted {base g c n m : Nat} {w : World} {l l' : List Pt} {os : Array Obj} (h : OwnPt base w (.slice (some ⟨g, 0, none⟩) n c) l) (hn : l.length = n) (hl : l'.length = n) :
    OwnPt base (sortWorldK pCells 2 w g 0 m l'.toArray os) (.slice (some ⟨g, 0, none⟩) n c) l' ∧ Below base w (sortWorldK pCells 2 w g 0 m l'.toArray os) := by
  subst hn
  have h0 := h
  rcases h.2 with ⟨e, _⟩ | ⟨g', cap, cur, e, hg, hh, hnc, hcm, hcs, ht⟩
  · cases e
  · cases e
    have hgs := lt_block hh
    have hheap : (sortWorldK pCells 2 w g 0 m l'.toArray os).heap = w.heap.modify g (onCells (putCells id 0 (flatK pCells 2 l'.toArray))) ++ os := rfl
    have hblk : (sortWorldK pCells 2 w g 0 m l'.toArray os).heap[g]? = some (.cells (putCells id 0 (flatK pCells 2 l'.toArray) cur) 28 (0, 0)) := by
      rw [hheap, Array.getElem?_append_left (by simpa using hgs), Array.getElem?_modify, if_pos rfl, hh]
      rfl
    refine ⟨⟨flat_len pCells_len l', .inr ⟨g, c, _, by rw [hl], hg, hblk, by omega, hcm, by simp [putCells, hcs], ?_⟩⟩, rfl, rfl, rfl, ?_, fun k hk => ?_⟩
    · refine take_ext (flat_len pCells_len l') fun j hj => ?_
      have hj3 : j < (flatK pCells 2 l'.toArray).size := by simpa using hj
      have hjc : j < cur.size := by rw [hcs]; rw [hl] at hj; have := Nat.mul_le_mul_right 2 hnc; omega
      rw [Array.getElem?_toList, ← flatK_pts, Array.getElem?_toList]
      unfold putCells
      rw [Array.getElem?_mapIdx, Array.getElem?_eq_getElem hjc, Option.map_some, if_pos ⟨Nat.zero_le _, by rw [Nat.zero_add]; exact hj3⟩, Nat.sub_zero, getElem!_pos (flatK pCells 2 l'.toArray) j hj3, Array.getElem?_eq_getElem hj3]
      rfl
    · rw [hheap]
      simp
    · rw [hheap, Array.getElem?_append_left (by simp; omega), Array.getElem?_modify, if_neg (by omega)]
theorem slSortPt_any (base g c n : Nat) (l : List Pt) (w : World) (h : OwnPt base w (.slice (some ⟨g, 0, none⟩) n c) l) (hn : l.length = n) (h200 : n ≤ 1000) :
    Calls Tryz.prog 148 #[.slice (some ⟨g, 0, none⟩) n c, .func (.func 149) #[] #[]] w fun e w' => e = .returned (.tuple #[]) ∧ OwnPt base w' (.slice (some ⟨g, 0, none⟩) n c) (l.mergeSort lePt) ∧ Below base w w' := by
  subst hn
  have eg : ∀ args w, (callFunc 149 args).run Tryz.prog w = .ok (.enter 149 args) w := enters_of Tryz.func149 (by kernel_rfl) rfl
  have hgs : g < w.heap.size := by
    rcases h.2 with ⟨e, _⟩ | ⟨g', cap, cur, e, hg, hh, _⟩
    · cases e
    · cases e
      exact lt_block hh
  have hcon := AnyQ.slices_SortFunc_total Tryz.sortPt 2 Tryz.isAgg28 Tryz.sizeOf28 pCells pCells_len (fun x v hv => by simp only [pCells, List.mem_cons, List.not_mem_nil, or_false] at hv; rcases hv with rfl | rfl <;> rfl) ptOrd swo_pt 149 #[] g 0 c l.toArray w eg
    (fun _ _ _ _ x y => plorder_grown x.1 x.2 y.1 y.2 _ rfl) (holds_pts h rfl) hgs (by simp; omega) lots_pt
  change Calls Tryz.prog 148 _ _ _ at hcon
  simp only [List.size_toArray] at hcon
  refine hcon.mono ?_
  rintro e w' ⟨rfl, m, os, rfl⟩
  rw [le_ptOrd]
  have hl : (l.mergeSort lePt).length = l.length := List.length_mergeSort ..
  have := own_sorted (m := m) (os := os) h rfl hl
  exact ⟨rfl, this.1, this.2⟩
end Go.Proofs.YtdmegkkifiahdaaGreat
/- The walks of slices.Grow and slices.Concat of places. -/
namespace Go.Proofs
open Go.RowKit Go.Shelf
shelf_lay_g Lays8.n4 Nm8 4 at Tryz 243 as Tryz.growPt
end Go.Proofs
namespace Go.Proofs.YtdmegkkifiahdaaGreat
open Go.RowKit Go.Shelf
attribute [local go_sem] bqOp bqAll bqUpon
attribute [local irreducible] wpQuiet wpBQ
set_option linter.unusedVariables false
theorem slGrowPt_nil (n : Nat) (x : Int) (w : World) (hx : x = (n : Int)) (hn : n ≤ 1000) : Calls Tryz.prog 243 #[.slice none 0 0, .int .i64 x] w fun e w' => ∃ (ad : Option Addr) (c : Nat), e = .returned (.slice ad 0 c) ∧ OwnPt w.heap.size w' (.slice ad 0 c) [] ∧ Below w.heap.size w w' := by
  subst hx
  rcases Nat.eq_zero_or_pos n with rfl | h0
  · have h := Any8.slices_Grow_room Tryz.growPt none 0 0 0 w (by omega) (by omega) (by omega) (by omega)
    change Calls Tryz.prog 243 _ _ _ at h
    refine h.mono ?_
    rintro e w' ⟨rfl, rfl⟩
    exact ⟨none, 0, rfl, OwnPt.nil _ _, Below.refl _ _⟩
  · obtain ⟨i0, hi0, hz0, hz1, hz2⟩ := info_parts info_pt
    have h := Any8.slices_Grow_grow Tryz.growPt i0 (.agg #[.int .i64 0, .int .i64 0]) hi0 hz0 (by rw [hz1]; omega) none 0 0 n [] w (by omega) (by omega) (by rw [hz2]; omega) (by omega) (by simp) (fun _ => rfl) (fun a e => by cases e)
    change Calls Tryz.prog 243 _ _ _ at h
    refine h.mono ?_
    rintro e w' ⟨rfl, rfl⟩
    have g1 := grownCap_ge w (0 + n) 0 28
    have g2 := grownCap_le_maxLen w (0 + n) 0 28 (by unfold maxLen; omega)
    refine ⟨_, _, rfl, ⟨rfl, .inr ⟨w.heap.size, _, _, rfl, Nat.le_refl _, block_new w.drew _, Nat.zero_le _, g2, ?_, by simp⟩⟩, ((Below.refl _ w).drew.alloc (Nat.le_refl _) _)⟩
    have hz : ∀ k, (Builtin.zeroCells (Value.cells (.agg #[.int .i64 0, .int .i64 0])) k).size = k * 2 := fun k => by
      simp [Builtin.zeroCells, Value.cells]
    simp only [Array.size_append, hz, List.size_toArray, List.length_nil]
    change 0 + (0 + n - 0) * 2 + (grownCap w (0 + n) 0 28 - (0 + n)) * 2 = grownCap w (0 + n) 0 28 * 2
    omega
set_option maxRecDepth 20000 in
set_option maxHeartbeats 2000000 in
theorem slConcPt_two (l1 l2 : List Pt) (b n1 n2 c1 c2 : Nat) (a1 a2 : Option Addr) (w : World) (hb : w.heap[b]? = some (.cells #[.slice a1 n1 c1, .slice a2 n2 c2] 29 (0, 0))) (h1 : PtsAt w (.slice a1 n1 c1) l1) (h2 : PtsAt w (.slice a2 n2 c2) l2) (e1 : l1.length = n1) (e2 : l2.length = n2) (m1 : n1 ≤ 500) (m2 : n2 ≤ 500) :
    Calls Tryz.prog 154 #[.slice (some ⟨b, 0, none⟩) 2 2] w fun e w' => ∃ (ad : Option Addr) (c : Nat), e = .returned (.slice ad (n1 + n2) c) ∧ OwnPt w.heap.size w' (.slice ad (n1 + n2) c) (l1 ++ l2) ∧ Below w.heap.size w w' := by
  have HB := Lib.hid hb
  have S1 := Lib.hid (pts_src h1)
  have S2 := Lib.hid (pts_src h2)
  have E1 := Lib.hid e1
  have E2 := Lib.hid e2
  have c0 := cell_block hb
  clear hb h1 h2 e1 e2
  have d1 : decide ((n1 : Int) < 0) = false := decide_eq_false (by omega)
  have d2 : decide ((n1 : Int) + (n2 : Int) < 0) = false := decide_eq_false (by omega)
  go_enter Tryz.func154, Tryz.ntmps154
  go_wp2
  go_loop [3, 11] (fun s i => ∃ k : Nat, k ≤ 2 ∧ i = .int .i64 k ∧ ((k = 0 ∧ s = .int .i64 0) ∨ (k = 1 ∧ s = .int .i64 n1) ∨ (k = 2 ∧ s = .int .i64 ((n1 : Int) + (n2 : Int))))) (fun _ i => 2 - (Go.RowKit.intOf i).toNat)
  case atStart => exact ⟨0, by omega, rfl, .inl ⟨rfl, rfl⟩⟩
  case round =>
    obtain ⟨k, hk, rfl, ⟨rfl, rfl⟩ | ⟨rfl, rfl⟩ | ⟨rfl, rfl⟩⟩ := hrel
    · go_wp2
      go_round
      case rel => exact ⟨1, by omega, rfl, .inr (.inl ⟨rfl, by simp⟩)⟩
      case measure => simp [Go.RowKit.intOf]
    · go_wp2
      go_round
      case rel => exact ⟨2, by omega, rfl, .inr (.inr ⟨rfl, rfl⟩)⟩
      case measure => simp [Go.RowKit.intOf]
    · go_wp2_with fail
      (with_reducible refine (slGrowPt_nil (n1 + n2) _ _ (by omega) (by omega)).mono ?_)
      rintro e w1 ⟨ad, c, rfl, how, hb1⟩
      have HOW := Lib.hid how
      have HB1 := Lib.hid hb1
      clear how hb1 c0
      go_wp2_with fail
      go_loopw [6, 27] (fun t i wr => ∃ (k N : Nat) (ad : Option Addr) (c : Nat) (L : List Pt), k ≤ 2 ∧ i = .int .i64 k ∧ t = .slice ad N c ∧ L.length = N ∧ ((k = 0 ∧ L = []) ∨ (k = 1 ∧ L = l1) ∨ (k = 2 ∧ L = l1 ++ l2)) ∧ OwnPt w.heap.size wr (.slice ad N c) L ∧ Below w.heap.size w wr) (fun _ i _ => 2 - (Go.RowKit.intOf i).toNat)
      case atStart => exact ⟨0, 0, ad, c, [], by omega, rfl, rfl, rfl, .inl ⟨rfl, rfl⟩, HOW.out, HB1.out⟩
      case round =>
        clear HOW HB1
        obtain ⟨k, N, ad, c, L, hk, rfl, rfl, hL, ⟨rfl, rfl⟩ | ⟨rfl, rfl⟩ | ⟨rfl, rfl⟩, how, hbr⟩ := hrel
        · have HOW := Lib.hid how
          have c0 := cell_block (block_later hbr HB.out)
          have hsz := hbr.size
          obtain rfl : N = 0 := hL.symm
          clear how
          go_wp2_with (at_builtin; refine wpList_appT pCells_len (by omega) Tryz.underlying29 info_pt rfl rfl _ _ rfl w.heap.size _ [] l1 rfl HOW.out _ n1 c1 rfl E1.out (S1.out.later hbr) (pts_one _) (show [].length + n1 = n1 by simp) (by unfold maxLen; omega) (by omega) hsz ?_; intro ad3 c3 w3 hown3 hg3 hb3)
          have HO3 := Lib.hid (show OwnPt w.heap.size w3 (.slice ad3 n1 c3) l1 from hown3)
          have hb4 := hbr.trans hb3
          clear hown3 hg3 hb3
          go_wp2_with fail
          go_roundw
          case rel => exact ⟨1, n1, ad3, c3, l1, by omega, rfl, rfl, E1.out, .inr (.inl ⟨rfl, rfl⟩), HO3.out, hb4⟩
          case measure => simp [Go.RowKit.intOf]
        · have HOW := Lib.hid how
          have c0 := cell_block (block_later hbr HB.out)
          have hsz := hbr.size
          obtain rfl : N = n1 := by rw [← hL, E1.out]
          clear how
          go_wp2_with (at_builtin; refine wpList_appT pCells_len (by omega) Tryz.underlying29 info_pt rfl rfl _ _ rfl w.heap.size _ L l2 rfl HOW.out _ n2 c2 rfl E2.out (S2.out.later hbr) (pts_one _) (show L.length + n2 = N + n2 by rw [E1.out]) (by unfold maxLen; omega) (by omega) hsz ?_; intro ad3 c3 w3 hown3 hg3 hb3)
          have HO3 := Lib.hid (show OwnPt w.heap.size w3 (.slice ad3 (N + n2) c3) (L ++ l2) from hown3)
          have hb4 := hbr.trans hb3
          have hLL : (L ++ l2).length = N + n2 := by rw [List.length_append, E1.out, E2.out]
          clear hown3 hg3 hb3
          go_wp2_with fail
          go_roundw
          case rel => exact ⟨2, N + n2, ad3, c3, L ++ l2, by omega, rfl, rfl, hLL, .inr (.inr ⟨rfl, rfl⟩), HO3.out, hb4⟩
          case measure => simp [Go.RowKit.intOf]
        · obtain rfl : N = n1 + n2 := by rw [← hL, List.length_append, E1.out, E2.out]
          have HOW := Lib.hid how
          clear how hL
          go_wp2_with fail
          go_returns
          exact ⟨ad, c, rfl, HOW.out, hbr⟩
end Go.Proofs.YtdmegkkifiahdaaGreat
/- The walk of slices.Compact of places that the call owns. -/
namespace Go.Proofs.YtdmegkkifiahdaaGreat
open Go.RowKit Go.Shelf
attribute [local go_sem] bqOp bqAll bqUpon sqOp sqAll sqUpon
attribute [local irreducible] wpQuiet wpBQ wpPlan
set_option linter.unusedVariables false
theorem once_snoc (x : Pt) : ∀ l : List Pt, onceP (l ++ [x]) = if l.getLast? = some x then onceP l else onceP l ++ [x]
  | [] => rfl
  | [a] => by
    show onceP (a :: x :: []) = _
    unfold onceP
    simp only [List.getLast?_singleton, Option.some.injEq]
    split
    · next h => rw [h]; rfl
    · rfl
  | a :: b :: r => by
    have ih := once_snoc x (b :: r)
    show onceP (a :: b :: (r ++ [x])) = _
    rw [List.getLast?_cons_cons]
    unfold onceP
    rw [show b :: (r ++ [x]) = (b :: r) ++ [x] from rfl, ih]
    by_cases h : a = b
    · rw [if_pos h, if_pos h]
    · rw [if_neg h, if_neg h]
      split <;> rfl
theorem once_len : ∀ l : List Pt, (onceP l).length ≤ l.length
  | [] => Nat.le_refl _
  | [_] => Nat.le_refl _
  | a :: b :: r => by
    have ih := once_len (b :: r)
    unfold onceP
    split
    · simp only [List.length_cons] at ih ⊢
      omega
    · simp only [List.length_cons] at ih ⊢
      omega
theorem once_take {l : List Pt} {k : Nat} (h0 : 0 < k) (hk : k < l.length) : onceP (l.take (k + 1)) = if l.getD (k - 1) (0, 0) = l.getD k (0, 0) then onceP (l.take k) else onceP (l.take k) ++ [l.getD k (0, 0)] := by
  have e : l.take (k + 1) = l.take k ++ [l.getD k (0, 0)] := by
    rw [List.take_succ_eq_append_getElem hk, List.getD_eq_getElem?_getD, List.getElem?_eq_getElem hk]
    rfl
  have e2 : (l.take k).getLast? = some (l.getD (k - 1) (0, 0)) := by
    rw [List.getLast?_eq_getElem?, List.length_take, Nat.min_eq_left (by omega), List.getElem?_take_of_lt (by omega), List.getD_eq_getElem?_getD, List.getElem?_eq_getElem (by omega)]
    rfl
  rw [e, once_snoc, e2]
  simp only [Option.some.injEq]
theorem once_same {l : List Pt} : ∀ {k : Nat}, k ≤ l.length → (∀ j, 0 < j → j < k → l.getD (j - 1) (0, 0) ≠ l.getD j (0, 0)) → onceP (l.take k) = l.take k
  | 0, _, _ => rfl
  | k + 1, hk, h => by
    have ih := once_same (l := l) (k := k) (by omega) (fun j h1 h2 => h j h1 (by omega))
    have e : l.take (k + 1) = l.take k ++ [l.getD k (0, 0)] := by
      rw [List.take_succ_eq_append_getElem (by omega), List.getD_eq_getElem?_getD, List.getElem?_eq_getElem (by omega)]
      rfl
    rcases Nat.eq_zero_or_pos k with rfl | h0
    · rw [e]
      rfl
    · rw [once_take h0 (by omega), if_neg (h k h0 (by omega)), ih, e]
/-- The block g holds the list cur, the first n of c. -/
structure OwnB (base g c n : Nat) (w : World) (cc : Array Value) (cur : List Pt) : Prop where
  blk : w.heap[g]? = some (.cells cc 28 (0, 0))
  sz : cc.size = c * 2
  nc : n ≤ c
  mx : c ≤ maxLen
  bs : base ≤ g
  len : cur.length = n
  tk : cc.toList.take (n * 2) = cur.flatMap pCells
theorem OwnB.own {base g c n : Nat} {w : World} {cc : Array Value} {cur : List Pt} (h : OwnB base g c n w cc cur) : OwnPt base w (.slice (some ⟨g, 0, none⟩) n c) cur := by
  obtain ⟨h1, h2, h3, h4, h5, rfl, h7⟩ := h
  exact ⟨flat_len pCells_len cur, .inr ⟨g, c, cc, rfl, h5, h1, h3, h4, h2, h7⟩⟩
theorem OwnB.of {base g c n : Nat} {w : World} {cur : List Pt} (h : OwnPt base w (.slice (some ⟨g, 0, none⟩) n c) cur) (hn : cur.length = n) : ∃ cc, OwnB base g c n w cc cur := by
  subst hn
  rcases h.2 with ⟨e, _⟩ | ⟨g', cap, cc, e, hg, hh, hnc, hcm, hcs, ht⟩
  · cases e
  · cases e
    exact ⟨cc, hh, hcs, hnc, hcm, hg, rfl, ht⟩
theorem OwnB.at {base g c n : Nat} {w : World} {cc : Array Value} {cur : List Pt} (h : OwnB base g c n w cc cur) {i j : Nat} (hi : i < n) (hj : j < 2) : w.cell? ⟨g, i * 2 + j, none⟩ = (pCells (cur.getD i (0, 0)))[j]? := by
  rw [cell_block h.blk, ← flat_get pCells 2 pCells_len (0, 0) cur i j (by rw [h.len]; exact hi) hj, ← h.tk, List.getElem?_take_of_lt (by omega), Array.getElem?_toList]
theorem OwnB.later {base g c n : Nat} {w w' : World} {cc : Array Value} {cur : List Pt} (h : OwnB base g c n w cc cur) (hb : Below w.heap.size w w') : OwnB base g c n w' cc cur := ⟨block_later hb h.blk, h.sz, h.nc, h.mx, h.bs, h.len, h.tk⟩
theorem OwnB.put {base g c n k : Nat} {w : World} {cc : Array Value} {cur : List Pt} (h : OwnB base g c n w cc cur) (hk : k < n) (x y : Int) :
    OwnB base g c n ((w.setCell ⟨g, k * 2, none⟩ (.int .i64 x)).setCell ⟨g, k * 2 + 1, none⟩ (.int .i64 y)) ((cc.setIfInBounds (k * 2) (.int .i64 x)).setIfInBounds (k * 2 + 1) (.int .i64 y)) (cur.set k (x, y)) := by
  refine ⟨block_set (block_set h.blk _) _, by simp [h.sz], h.nc, h.mx, h.bs, by simp [h.len], ?_⟩
  refine take_ext (by rw [flat_len pCells_len, List.length_set, h.len]) fun t ht => ?_
  have hl : (cur.set k (x, y)).length = n := by rw [List.length_set, h.len]
  have e1 := flat_get pCells 2 pCells_len (0, 0) (cur.set k (x, y)) (t / 2) (t % 2) (by rw [hl]; omega) (by omega)
  have e0 := flat_get pCells 2 pCells_len (0, 0) cur (t / 2) (t % 2) (by rw [h.len]; omega) (by omega)
  rw [show t / 2 * 2 + t % 2 = t by omega] at e1 e0
  rw [e1]
  have hc : cc[t]? = (cur.flatMap pCells)[t]? := by rw [← h.tk, List.getElem?_take_of_lt ht, Array.getElem?_toList]
  have htc : t < cc.size := by rw [h.sz]; have := h.nc; omega
  rw [Array.getElem?_toList, Array.getElem?_setIfInBounds, Array.getElem?_setIfInBounds]
  have gs : (cur.set k (x, y)).getD (t / 2) (0, 0) = if k = t / 2 then (x, y) else cur.getD (t / 2) (0, 0) := by
    rw [List.getD_eq_getElem?_getD, List.getD_eq_getElem?_getD, List.getElem?_set]
    have hkl : k < cur.length := by rw [h.len]; exact hk
    by_cases e : k = t / 2
    · rw [if_pos e, if_pos e, if_pos (by omega)]
      rfl
    · rw [if_neg e, if_neg e]
  rw [gs]
  by_cases hkt : k = t / 2
  · rw [if_pos hkt]
    rcases (show t % 2 = 0 ∨ t % 2 = 1 by omega) with hm | hm
    · rw [if_neg (by omega), if_pos (by omega), if_pos (by omega), hm]
      rfl
    · rw [if_pos (by omega), hm]
      simp only [Array.size_setIfInBounds]
      rw [if_pos (by omega)]
      rfl
  · rw [if_neg hkt, if_neg (by omega), if_neg (by omega), hc, e0]
/-- The first k of the list. -/
theorem OwnB.take {base g c n k : Nat} {w : World} {cc : Array Value} {cur : List Pt} (h : OwnB base g c n w cc cur) (hk : k ≤ n) : OwnB base g c k w cc (cur.take k) := by
  refine ⟨h.blk, h.sz, by have := h.nc; omega, h.mx, h.bs, by rw [List.length_take, h.len]; omega, ?_⟩
  refine take_ext (by rw [flat_len pCells_len, List.length_take, h.len]; congr 1; omega) fun t ht => ?_
  have e1 := flat_get pCells 2 pCells_len (0, 0) (cur.take k) (t / 2) (t % 2) (by rw [List.length_take, h.len]; omega) (by omega)
  have e0 := flat_get pCells 2 pCells_len (0, 0) cur (t / 2) (t % 2) (by rw [h.len]; omega) (by omega)
  rw [show t / 2 * 2 + t % 2 = t by omega] at e1 e0
  have e2 : (cur.take k).getD (t / 2) (0, 0) = cur.getD (t / 2) (0, 0) := by
    rw [List.getD_eq_getElem?_getD, List.getD_eq_getElem?_getD, List.getElem?_take_of_lt (by omega)]
  rw [e1, e2, ← e0, ← h.tk, List.getElem?_take_of_lt (by omega)]
/-- clear of what lies behind the first k. -/
theorem OwnB.clear {base g c n k : Nat} {w : World} {cc : Array Value} {cur : List Pt} (h : OwnB base g c n w cc cur) (hk : k < n) (m : Nat) :
    ∃ w', (∀ ty, (Builtin.clear_ #[29] ty #[.slice (some ⟨g, k * 2, none⟩) (n - k) m]).run Tryz.prog w = .ok (.tuple #[]) w') ∧ OwnPt base w' (.slice (some ⟨g, 0, none⟩) k c) (cur.take k) ∧ Below base w w' := by
  obtain ⟨q, hq⟩ : ∃ q, n - k = q + 1 := ⟨n - k - 1, by omega⟩
  have hz : (Builtin.zeroCells (Value.cells (.agg #[.int .i64 0, .int .i64 0])) (q + 1)).toList.length = (q + 1) * 2 := by simp [Builtin.zeroCells, Value.cells]
  have hone : ∀ v ∈ (Builtin.zeroCells (Value.cells (.agg #[.int .i64 0, .int .i64 0])) (q + 1)).toList, v.oneCell' = true := by
    intro v hv
    simp only [Builtin.zeroCells, Value.cells, Array.toList_map, List.mem_map] at hv
    obtain ⟨i, _, rfl⟩ := hv
    rcases (show i % 2 = 0 ∨ i % 2 = 1 by omega) with h | h <;> simp [h, Value.oneCell']
  have hfit : k * 2 + 0 + (Builtin.zeroCells (Value.cells (.agg #[.int .i64 0, .int .i64 0])) (q + 1)).toList.length ≤ cc.size := by rw [hz, h.sz]; have := h.nc; omega
  have hrun := run_storeCells_at (P := Tryz.prog) g (k * 2) 28 _ 0 cc w h.blk hfit hone
  obtain ⟨row, hrow⟩ : ∃ row, (cc.toList.take (k * 2 + 0) ++ (Builtin.zeroCells (Value.cells (.agg #[.int .i64 0, .int .i64 0])) (q + 1)).toList ++ cc.toList.drop (k * 2 + 0 + (Builtin.zeroCells (Value.cells (.agg #[.int .i64 0, .int .i64 0])) (q + 1)).toList.length)).toArray = row := ⟨_, rfl⟩
  rw [hrow] at hrun
  have hgs := lt_block h.blk
  have hrs : row.size = c * 2 := by
    rw [← hrow]
    simp only [List.size_toArray, List.length_append, List.length_take, List.length_drop, hz, Array.length_toList, h.sz]
    have := h.nc
    omega
  have hrt : row.toList.take (k * 2) = (cur.take k).flatMap pCells := by
    rw [← (h.take (k := k) (by omega)).tk, ← hrow]
    simp only [Nat.add_zero, List.append_assoc]
    rw [List.take_append_of_le_length (by rw [List.length_take, Array.length_toList, h.sz]; have := h.nc; omega), List.take_take, Nat.min_self]
  have hlk : (cur.take k).length = k := by rw [List.length_take, h.len]; omega
  have hhp := setRow_heap w g cc row 28 (0, 0) h.blk
  refine ⟨w.setRow g row, ?_, ?_, ?_⟩
  · intro ty
    rw [hq]
    simp [Builtin.clear_, run_underlying Tryz.underlying29, Tryz.zeroValue28, hrun]
  · have hl : (cur.take k).length = k := hlk
    unfold OwnPt OwnT
    rw [hl]
    exact ⟨by rw [flat_len pCells_len, hl], .inr ⟨g, c, row, rfl, h.bs, hhp, by have := h.nc; omega, h.mx, hrs, hrt⟩⟩
  · exact below_setRow (Below.refl base w) h.bs _
theorem regrown_cell {W : World} {g i : Nat} {v : Value} (hg : g < W.heap.size) (h : W.cell? ⟨g, i, none⟩ = some v) (d : Nat) (os : Array Obj) : (Sort.grow (redrawn W d) os).cell? ⟨g, i, none⟩ = some v := by rw [(below_regrown W d os).cell hg]; exact h
set_option maxRecDepth 20000 in
set_option maxHeartbeats 4000000 in
theorem slCompPt_any (base g c n : Nat) (l : List Pt) (w : World) (h : OwnPt base w (.slice (some ⟨g, 0, none⟩) n c) l) (hn : l.length = n) (h200 : n ≤ 1000) :
    Calls Tryz.prog 150 #[.slice (some ⟨g, 0, none⟩) n c] w fun e w' => ∃ N, (onceP l).length = N ∧ e = .returned (.slice (some ⟨g, 0, none⟩) N c) ∧ OwnPt base w' (.slice (some ⟨g, 0, none⟩) N c) (onceP l) ∧ Below base w w' := by
  obtain ⟨cc, hob⟩ := OwnB.of h hn
  have HN := Lib.hid hn
  have OB := Lib.hid hob
  have hnc := hob.nc
  have hgs := lt_block hob.blk
  have hbg := hob.bs
  clear h hob hn
  by_cases h2 : n < 2
  · have hl : onceP l = l := by
      have := HN.out
      match l, this with
      | [], _ => rfl
      | [_], _ => rfl
      | _ :: _ :: _, h => simp at h; omega
    have d : decide ((n : Int) < 2) = true := decide_eq_true (by omega)
    have hn2 : (n : Int) < 2 := by omega
    go_enter Tryz.func150, Tryz.ntmps150
    go_wp2
    go_returns
    exact ⟨n, by rw [hl, HN.out], rfl, by rw [hl]; exact OB.out.own, Below.refl _ _⟩
  have d : decide ((n : Int) < 2) = false := decide_eq_false (by omega)
  have hn2 : (2 : Int) ≤ (n : Int) := by omega
  go_enter Tryz.func150, Tryz.ntmps150
  go_wp2
  go_loopw [3] (fun i wr => ∃ k : Nat, 1 ≤ k ∧ k ≤ n ∧ i = .int .i64 k ∧ Below w.heap.size w wr ∧ ∀ j, 0 < j → j < k → l.getD (j - 1) (0, 0) ≠ l.getD j (0, 0)) (fun i _ => n - (Go.RowKit.intOf i).toNat)
  case atStart => exact ⟨1, by omega, by omega, rfl, Below.refl _ _, fun j h1 h2 => by omega⟩
  case round =>
    obtain ⟨k, hk1, hk, rfl, hbr, hall⟩ := hrel
    have ALL := Lib.hid hall
    have OBr := Lib.hid (OB.out.later hbr)
    have hszr := hbr.size
    clear hall
    by_cases hlt : k < n
    rotate_left
    · obtain rfl : k = n := by omega
      have hl : onceP l = l := by
        have := once_same (l := l) (k := k) (by rw [HN.out]; omega) ALL.out
        rwa [← HN.out, List.take_length] at this
      go_wp2_with fail
      go_returns
      exact ⟨k, by rw [hl, HN.out], rfl, by rw [hl]; exact OBr.out.own, hbr.mono (by omega)⟩
    obtain ⟨p, hp⟩ : ∃ p, k - 1 = p := ⟨_, rfl⟩
    have hpn : p < n := by omega
    obtain ⟨⟨ax, ay⟩, ha⟩ : ∃ a, l.getD k (0, 0) = a := ⟨_, rfl⟩
    obtain ⟨⟨bx, by'⟩, hb⟩ : ∃ a, l.getD p (0, 0) = a := ⟨_, rfl⟩
    have k0 := OBr.out.at hlt (j := 0) (by omega)
    have k1 := OBr.out.at hlt (j := 1) (by omega)
    have k2 := OBr.out.at hpn (j := 0) (by omega)
    have k3 := OBr.out.at hpn (j := 1) (by omega)
    rw [ha] at k0 k1
    rw [hb] at k2 k3
    have m0 := regrown_cell (by omega) (show wr.cell? ⟨g, k * 2, none⟩ = some (.int .i64 ax) from k0)
    have m1 := regrown_cell (by omega) (show wr.cell? ⟨g, k * 2 + 1, none⟩ = some (.int .i64 ay) from k1)
    have m2 := regrown_cell (by omega) (show wr.cell? ⟨g, p * 2, none⟩ = some (.int .i64 bx) from k2)
    have m3 := regrown_cell (by omega) (show wr.cell? ⟨g, p * 2 + 1, none⟩ = some (.int .i64 by') from k3)
    have j1 : (k : Int) - 1 = (p : Int) := by omega
    have j2 : IntKind.i64.wrap (p : Int) = (p : Int) := IntWalk.i64_in _ (by omega)
    have HA := Lib.hid ha
    have HB := Lib.hid hb
    have HP := Lib.hid hp
    clear k0 k1 k2 k3 ha hb hp
    by_cases hne : ¬ (ax = bx ∧ ay = by')
    · have STEP : Hid (∀ j, 0 < j → j < k + 1 → l.getD (j - 1) (0, 0) ≠ l.getD j (0, 0)) := Lib.hid (fun j h1 h2 => by
        rcases Nat.lt_or_ge j k with h | h
        · exact ALL.out j h1 h
        · obtain rfl : j = k := by omega
          rw [HP.out, HA.out, HB.out]
          intro e
          cases e
          exact hne ⟨rfl, rfl⟩)
      by_cases hx : ax = bx
      · subst hx
        have hy : ay ≠ by' := fun e => hne ⟨rfl, e⟩
        have d3 : (ay == by') = false := by simpa using hy
        clear hne hy
        go_wp2_with fail
        refine wp_region_plan (.take 0 (.take 0 (.take 0 (.take 0 (.take 0 (.take 0 (.take 0 (.take 0 (.take 0 (.take 0 .done)))))))))) (by kernel_rfl) (by kernel_rfl) (fun hP => ?_)
        repeat' (refine wpPlan_take rfl (fun K hK => ?_); replace hK := Lib.hid hK; go_simp; first | (refine hK.out _ ?_; clear hK K) | (apply Exists.intro; refine ⟨fun _ => ?_, hK.out _ ?_⟩; (first | with_reducible exact rfl | skip); clear hK K))
        refine wpPlan_done ?_
        have hb3 := below_step hbr hP
        clear m0 m1 m2 m3
        go_wp2_with fail
        go_roundw
        case rel => exact ⟨k + 1, by omega, by omega, by go_num, hb3, STEP.out⟩
        case measure => simp [Go.RowKit.intOf]; omega
      · have d3 : (ax == bx) = false := by simpa using hx
        clear hne hx
        go_wp2_with fail
        refine wp_region_plan (.take 0 (.take 0 (.take 0 (.take 0 (.take 0 (.take 0 (.take 0 (.take 0 (.take 0 (.take 0 .done)))))))))) (by kernel_rfl) (by kernel_rfl) (fun hP => ?_)
        repeat' (refine wpPlan_take rfl (fun K hK => ?_); replace hK := Lib.hid hK; go_simp; first | (refine hK.out _ ?_; clear hK K) | (apply Exists.intro; refine ⟨fun _ => ?_, hK.out _ ?_⟩; (first | with_reducible exact rfl | skip); clear hK K))
        refine wpPlan_done ?_
        have hb3 := below_step hbr hP
        clear m0 m1 m2 m3
        go_wp2_with fail
        go_roundw
        case rel => exact ⟨k + 1, by omega, by omega, by go_num, hb3, STEP.out⟩
        case measure => simp [Go.RowKit.intOf]; omega
    · obtain ⟨rfl, rfl⟩ : ax = bx ∧ ay = by' := Decidable.not_not.1 hne
      clear hne
      go_wp2_with fail
      refine wp_region_plan (.take 0 (.take 0 (.take 0 (.take 0 (.take 0 (.take 0 (.take 0 (.take 0 (.take 0 (.take 0 .done)))))))))) (by kernel_rfl) (by kernel_rfl) (fun hP => ?_)
      repeat' (refine wpPlan_take rfl (fun K hK => ?_); replace hK := Lib.hid hK; go_simp; first | (refine hK.out _ ?_; clear hK K) | (apply Exists.intro; refine ⟨fun _ => ?_, hK.out _ ?_⟩; (first | with_reducible exact rfl | skip); clear hK K))
      refine wpPlan_done ?_
      have hb3 := Lib.hid (below_step hbr hP)
      clear m0 m1 m2 m3 j1 j2
      have hck : k < c := by omega
      go_wp2_with fail
      clear hgs hszr
      have HB0 := Lib.hid (hb3.out.mono (show base ≤ w.heap.size by have := lt_block OB.out.blk; omega))
      have ST0 : Hid (onceP (l.take (k + 1)) = l.take k) := Lib.hid (by
        rw [once_take (by omega) (by rw [HN.out]; exact hlt), HP.out, HA.out, HB.out, if_pos rfl, once_same (by rw [HN.out]; omega) ALL.out])
      have OB1 := Lib.hid (OB.out.later hb3.out)
      go_loopw [3, 5] (fun a b wi => ∃ (q k2 : Nat) (cc2 : Array Value) (cur : List Pt), a = .int .i64 q ∧ b = .int .i64 k2 ∧ 1 ≤ k2 ∧ k + k2 ≤ n ∧ q + 1 ≤ k + k2 ∧ OwnB base g c n wi cc2 cur ∧ onceP (l.take (k + k2)) = cur.take q ∧ (∀ i, k + k2 - 1 ≤ i → i < n → cur.getD i (0, 0) = l.getD i (0, 0)) ∧ Below base w wi) (fun _ b _ => (n - k) - (Go.RowKit.intOf b).toNat)
      case atStart => exact ⟨k, 1, cc, l, rfl, rfl, by omega, by omega, by omega, OB1.out, ST0.out, fun _ _ _ => rfl, HB0.out⟩
      case round =>
        clear HB0 ST0 OB1 hb3
        obtain ⟨q, k2, cc2, cur, rfl, rfl, h1, hle, hq, hobi, hst, hhigh, hbi⟩ := hrel
        have OBi := Lib.hid hobi
        have ST := Lib.hid hst
        have HIGH := Lib.hid hhigh
        have hgi := lt_block hobi.blk
        clear hobi hst hhigh
        by_cases hlt2 : k + k2 < n
        rotate_left
        · have hkn : k + k2 = n := by omega
          have hge : ¬ k2 < n - k := by omega
          have hge2 : n - k ≤ k2 := by omega
          obtain ⟨wE, hcl, hown, hbE⟩ := OBi.out.clear (k := q) (by omega) (c - q)
          have HOE := Lib.hid hown
          have HBE := Lib.hid (hbi.trans hbE)
          have hqc : q < c := by omega
          have hqn : q < n := by omega
          have hlen : (cur.take q).length = q := by rw [List.length_take, OBi.out.len]; omega
          have EE : Hid (onceP l = cur.take q) := Lib.hid (by rw [← ST.out, hkn, ← HN.out, List.take_length])
          have HLL := Lib.hid hlen
          clear hown hbE hbi hlen hge
          go_wp2_with fail
          go_returns
          exact ⟨q, by rw [EE.out, HLL.out], rfl, by rw [EE.out]; exact HOE.out, HBE.out⟩
        obtain ⟨p2, hp2⟩ : ∃ p2, k2 - 1 = p2 := ⟨_, rfl⟩
        obtain ⟨⟨ux, uy⟩, hu⟩ : ∃ a, cur.getD (k + k2) (0, 0) = a := ⟨_, rfl⟩
        obtain ⟨⟨vx, vy⟩, hv⟩ : ∃ a, cur.getD (k + p2) (0, 0) = a := ⟨_, rfl⟩
        have k0 := OBi.out.at hlt2 (j := 0) (by omega)
        have k1 := OBi.out.at hlt2 (j := 1) (by omega)
        have k3 := OBi.out.at (i := k + p2) (by omega) (j := 0) (by omega)
        have k4 := OBi.out.at (i := k + p2) (by omega) (j := 1) (by omega)
        rw [hu] at k0 k1
        rw [hv] at k3 k4
        have m0 := regrown_cell hgi (show wr.cell? ⟨g, k * 2 + k2 * 2, none⟩ = some (.int .i64 ux) by rw [show k * 2 + k2 * 2 = (k + k2) * 2 + 0 by omega]; exact k0)
        have m1 := regrown_cell hgi (show wr.cell? ⟨g, k * 2 + k2 * 2 + 1, none⟩ = some (.int .i64 uy) by rw [show k * 2 + k2 * 2 + 1 = (k + k2) * 2 + 1 by omega]; exact k1)
        have m2 := regrown_cell hgi (show wr.cell? ⟨g, k * 2 + p2 * 2, none⟩ = some (.int .i64 vx) by rw [show k * 2 + p2 * 2 = (k + p2) * 2 + 0 by omega]; exact k3)
        have m3 := regrown_cell hgi (show wr.cell? ⟨g, k * 2 + p2 * 2 + 1, none⟩ = some (.int .i64 vy) by rw [show k * 2 + p2 * 2 + 1 = (k + p2) * 2 + 1 by omega]; exact k4)
        have j1 : (k2 : Int) - 1 = (p2 : Int) := by omega
        have j2 : IntKind.i64.wrap (p2 : Int) = (p2 : Int) := IntWalk.i64_in _ (by omega)
        have l1 : k2 < n - k := by omega
        have l2 : p2 < n - k := by omega
        have HU := Lib.hid hu
        have HLu : Hid (l.getD (k + k2) (0, 0) = (ux, uy)) := Lib.hid (by rw [← HIGH.out (k + k2) (by omega) (by omega)]; exact hu)
        have HLv : Hid (l.getD (k + k2 - 1) (0, 0) = (vx, vy)) := Lib.hid (by rw [← HIGH.out (k + k2 - 1) (by omega) (by omega), show k + k2 - 1 = k + p2 by omega]; exact hv)
        clear k0 k1 k3 k4 hu hv hp2
        by_cases hne : ¬ (ux = vx ∧ uy = vy)
        · have STEPN : Hid (onceP (l.take (k + (k2 + 1))) = (cur.set q (ux, uy)).take (q + 1)) := Lib.hid (by
            rw [show k + (k2 + 1) = k + k2 + 1 by omega, once_take (by omega) (by rw [HN.out]; exact hlt2), HLu.out, HLv.out, if_neg (fun e => by cases e; exact hne ⟨rfl, rfl⟩), ST.out]
            have hlq : q < (cur.set q (ux, uy)).length := by rw [List.length_set, OBi.out.len]; omega
            rw [List.take_succ_eq_append_getElem hlq, List.take_set_of_le (Nat.le_refl _), List.getElem_set_self])
          have HIGHN : Hid (∀ i, k + (k2 + 1) - 1 ≤ i → i < n → (cur.set q (ux, uy)).getD i (0, 0) = l.getD i (0, 0)) := Lib.hid (fun i hi1 hi2 => by
            rw [← HIGH.out i (by omega) hi2, List.getD_eq_getElem?_getD, List.getD_eq_getElem?_getD, List.getElem?_set_ne (by omega)])
          by_cases hx : ux = vx
          · subst hx
            have hy : uy ≠ vy := fun e => hne ⟨rfl, e⟩
            have d3 : (uy == vy) = false := by simpa using hy
            have d4 : (uy != vy) = true := by simpa using hy
            clear hne hy
            go_wp2_with fail
            refine wp_region_plan (.take 0 (.take 0 (.take 0 (.take 0 (.take 0 (.take 0 (.take 0 (.take 0 (.take 0 (.take 0 .done)))))))))) (by kernel_rfl) (by kernel_rfl) (fun hP => ?_)
            repeat' (refine wpPlan_take rfl (fun K hK => ?_); replace hK := Lib.hid hK; go_simp; first | (refine hK.out _ ?_; clear hK K) | (apply Exists.intro; refine ⟨fun _ => ?_, hK.out _ ?_⟩; (first | with_reducible exact rfl | skip); clear hK K))
            refine wpPlan_done ?_
            obtain ⟨W4, hW4⟩ : ∃ W4, wr.drew = W4 := ⟨_, rfl⟩
            rw [hW4]
            have OB4 := OBi.out.later (w' := W4) (by rw [← hW4]; exact (Below.refl _ _).drew)
            have hb4 : Below base w W4 := hbi.trans (by rw [← hW4]; exact (Below.refl _ _).drew)
            clear m0 m1 m2 m3 hP hW4
            have k0 : W4.cell? ⟨g, k * 2 + k2 * 2, none⟩ = some (.int .i64 ux) := by
              have := OB4.at hlt2 (j := 0) (by omega)
              rw [HU.out] at this
              rw [show k * 2 + k2 * 2 = (k + k2) * 2 + 0 by omega]
              exact this
            have k1 : W4.cell? ⟨g, k * 2 + k2 * 2 + 1, none⟩ = some (.int .i64 uy) := by
              have := OB4.at hlt2 (j := 1) (by omega)
              rw [HU.out] at this
              rw [show k * 2 + k2 * 2 + 1 = (k + k2) * 2 + 1 by omega]
              exact this
            have f4 := free_block OB4.blk
            have o0 := OB4.at (i := q) (by omega) (j := 0) (by omega)
            have o1 := OB4.at (i := q) (by omega) (j := 1) (by omega)
            obtain ⟨⟨ox, oy⟩, ho⟩ : ∃ o, cur.getD q (0, 0) = o := ⟨_, rfl⟩
            rw [ho] at o0 o1
            replace o0 : W4.cell? ⟨g, q * 2, none⟩ = some (.int .i64 ox) := o0
            replace o1 : W4.cell? ⟨g, q * 2 + 1, none⟩ = some (.int .i64 oy) := o1
            have PU := Lib.hid (OB4.put (k := q) (by omega) ux uy)
            have OB5 := Lib.hid OB4
            have hb5 := Lib.hid hb4
            clear ho OB4 hb4
            go_wp2_with fail
            go_roundw
            case rel => exact ⟨q + 1, k2 + 1, _, cur.set q (ux, uy), by go_num, by go_num, by omega, by omega, by omega, PU.out, STEPN.out, HIGHN.out, (hb5.out.setCell OB5.out.bs _).setCell OB5.out.bs _⟩
            case measure => simp [Go.RowKit.intOf]; omega
          · have d3 : (ux == vx) = false := by simpa using hx
            have d4 : (ux != vx) = true := by simpa using hx
            clear hne hx
            go_wp2_with fail
            refine wp_region_plan (.take 0 (.take 0 (.take 0 (.take 0 (.take 0 (.take 0 (.take 0 (.take 0 (.take 0 (.take 0 .done)))))))))) (by kernel_rfl) (by kernel_rfl) (fun hP => ?_)
            repeat' (refine wpPlan_take rfl (fun K hK => ?_); replace hK := Lib.hid hK; go_simp; first | (refine hK.out _ ?_; clear hK K) | (apply Exists.intro; refine ⟨fun _ => ?_, hK.out _ ?_⟩; (first | with_reducible exact rfl | skip); clear hK K))
            refine wpPlan_done ?_
            obtain ⟨W4, hW4⟩ : ∃ W4, wr.drew = W4 := ⟨_, rfl⟩
            rw [hW4]
            have OB4 := OBi.out.later (w' := W4) (by rw [← hW4]; exact (Below.refl _ _).drew)
            have hb4 : Below base w W4 := hbi.trans (by rw [← hW4]; exact (Below.refl _ _).drew)
            clear m0 m1 m2 m3 hP hW4
            have k0 : W4.cell? ⟨g, k * 2 + k2 * 2, none⟩ = some (.int .i64 ux) := by
              have := OB4.at hlt2 (j := 0) (by omega)
              rw [HU.out] at this
              rw [show k * 2 + k2 * 2 = (k + k2) * 2 + 0 by omega]
              exact this
            have k1 : W4.cell? ⟨g, k * 2 + k2 * 2 + 1, none⟩ = some (.int .i64 uy) := by
              have := OB4.at hlt2 (j := 1) (by omega)
              rw [HU.out] at this
              rw [show k * 2 + k2 * 2 + 1 = (k + k2) * 2 + 1 by omega]
              exact this
            have f4 := free_block OB4.blk
            have o0 := OB4.at (i := q) (by omega) (j := 0) (by omega)
            have o1 := OB4.at (i := q) (by omega) (j := 1) (by omega)
            obtain ⟨⟨ox, oy⟩, ho⟩ : ∃ o, cur.getD q (0, 0) = o := ⟨_, rfl⟩
            rw [ho] at o0 o1
            replace o0 : W4.cell? ⟨g, q * 2, none⟩ = some (.int .i64 ox) := o0
            replace o1 : W4.cell? ⟨g, q * 2 + 1, none⟩ = some (.int .i64 oy) := o1
            have PU := Lib.hid (OB4.put (k := q) (by omega) ux uy)
            have OB5 := Lib.hid OB4
            have hb5 := Lib.hid hb4
            clear ho OB4 hb4
            go_wp2_with fail
            go_roundw
            case rel => exact ⟨q + 1, k2 + 1, _, cur.set q (ux, uy), by go_num, by go_num, by omega, by omega, by omega, PU.out, STEPN.out, HIGHN.out, (hb5.out.setCell OB5.out.bs _).setCell OB5.out.bs _⟩
            case measure => simp [Go.RowKit.intOf]; omega
        · obtain ⟨rfl, rfl⟩ : ux = vx ∧ uy = vy := Decidable.not_not.1 hne
          have STEPN : Hid (onceP (l.take (k + (k2 + 1))) = cur.take q) := Lib.hid (by
            rw [show k + (k2 + 1) = k + k2 + 1 by omega, once_take (by omega) (by rw [HN.out]; exact hlt2), HLu.out, HLv.out, if_pos rfl, ST.out])
          clear hne
          go_wp2_with fail
          refine wp_region_plan (.take 0 (.take 0 (.take 0 (.take 0 (.take 0 (.take 0 (.take 0 (.take 0 (.take 0 (.take 0 .done)))))))))) (by kernel_rfl) (by kernel_rfl) (fun hP => ?_)
          repeat' (refine wpPlan_take rfl (fun K hK => ?_); replace hK := Lib.hid hK; go_simp; first | (refine hK.out _ ?_; clear hK K) | (apply Exists.intro; refine ⟨fun _ => ?_, hK.out _ ?_⟩; (first | with_reducible exact rfl | skip); clear hK K))
          refine wpPlan_done ?_
          have OB4 := Lib.hid (OBi.out.later hP)
          have hb4 := Lib.hid (hbi.trans (hP.mono (by have := OBi.out.bs; omega)))
          clear m0 m1 m2 m3 hP
          go_wp2_with fail
          go_roundw
          case rel => exact ⟨q, k2 + 1, cc2, cur, rfl, by go_num, by omega, by omega, by omega, OB4.out, STEPN.out, fun i hi1 hi2 => HIGH.out i (by omega) hi2, hb4.out⟩
          case measure => simp [Go.RowKit.intOf]; omega
end Go.Proofs.YtdmegkkifiahdaaGreat
/- The walk of poly.Hull. -/
namespace Go.Proofs.YtdmegkkifiahdaaGreat
open Go.RowKit Go.Shelf
attribute [local go_sem] bqOp bqAll bqUpon sqOp sqAll sqUpon ssAll ssOp
attribute [local irreducible] wpQuiet wpBQ wpPlan wsPlan
set_option linter.unusedVariables false
/-- What Hull answers at places that are such: the hull, or the error 4 or 2. -/
def hullR (l : List Pt) : List Pt × Int := if (hullL (ascL l)).length < 3 then ([], 4) else if 24 < (hullL (ascL l)).length then ([], 2) else (hullL (ascL l), 0)
theorem map_all (l : List Pt) {n : Nat} (h : l.length = n) : (List.finRange n).map (fun i => l.getD i.1 (0, 0)) = l := by
  subst h
  apply List.ext_getElem
  · simp
  · intro i h1 h2
    have hi : ((List.finRange l.length)[i]'(by simpa using h2)).1 = i := by simp
    rw [List.getElem_map, hi, List.getD_eq_getElem?_getD, List.getElem?_eq_getElem h2]
    rfl
theorem map_back (l : List Pt) {n : Nat} (h : l.length = n) : (List.finRange n).map (fun i => l.getD (n - 1 - i.1) (0, 0)) = l.reverse := by
  subst h
  apply List.ext_getElem
  · simp
  · intro i h1 h2
    have h3 : i < l.length := by simpa using h1
    have hi : ((List.finRange l.length)[i]'(by simpa using h3)).1 = i := by simp
    rw [List.getElem_map, hi, List.getD_eq_getElem?_getD, List.getElem?_eq_getElem (by omega), List.getElem_reverse]
    rfl
theorem half_some {l : List Pt} (h : l ≠ []) : halfR l ≠ [] := by
  unfold halfR
  obtain ⟨x, m, rfl⟩ := List.exists_cons_of_ne_nil h
  rw [List.foldl_cons]
  have : ∀ (m st : List Pt), st ≠ [] → m.foldl (fun st q => q :: popR q st) st ≠ [] := by
    intro m
    induction m with
    | nil => intro st h; exact h
    | cons y m ih => intro st _; exact ih _ (by simp)
  exact this m _ (by simp)
theorem drop_last {l : List Pt} (h : l ≠ []) : ∃ x, l = l.dropLast ++ [x] := ⟨l.getLast h, (List.dropLast_concat_getLast h).symm⟩
theorem half_all (g N c2 Bn : Nat) (asc : List Pt) (w : World) (hA : asc.length = N) (hN : N ≤ 1000) (hv : ∀ p ∈ asc, Vld p.1 p.2) (hR : Rows 2 w (.slice (some ⟨g, 0, none⟩) N c2) N (ptX asc)) (hb : w.heap[Bn]? = some (.cells #[.slice (some ⟨g, 0, none⟩) N c2] 29 (0, 0))) :
    Calls Tryz.prog 151 #[.func (.func 241) #[] #[.pointer (some ⟨Bn, 0, none⟩)]] w fun e w' => ∃ (ad : Option Addr) (c M : Nat), (halfR asc).length = M ∧ e = .returned (.slice ad M c) ∧ OwnPt w.heap.size w' (.slice ad M c) (halfR asc).reverse ∧ Below w.heap.size w w' := by
  have hbn := lt_block hb
  have h := plhalf_any 241 Bn N (fun i => i.1) (fun i => asc.getD i.1 (0, 0)) w hN (enters_of Tryz.func241 (by kernel_rfl) rfl) hbn (fun i => hv _ (getD_memD (by rw [hA]; exact i.2) (0, 0)))
    (fun W hW => slAllPt1_stops N c2 (some ⟨g, 0, none⟩) (ptX asc) Bn w.heap.size 4 (by omega) w W hR hN hW (Nat.le_refl _) hW.size (Nat.lt_of_lt_of_le hbn hW.size) (block_later hW hb))
  rwa [map_all asc hA] at h
theorem half_back (g N c2 Bn : Nat) (asc : List Pt) (w : World) (hA : asc.length = N) (hN : N ≤ 1000) (hv : ∀ p ∈ asc, Vld p.1 p.2) (hR : Rows 2 w (.slice (some ⟨g, 0, none⟩) N c2) N (ptX asc)) (hb : w.heap[Bn]? = some (.cells #[.slice (some ⟨g, 0, none⟩) N c2] 29 (0, 0))) :
    Calls Tryz.prog 151 #[.func (.func 242) #[] #[.pointer (some ⟨Bn, 0, none⟩)]] w fun e w' => ∃ (ad : Option Addr) (c M : Nat), (halfR asc.reverse).length = M ∧ e = .returned (.slice ad M c) ∧ OwnPt w.heap.size w' (.slice ad M c) (halfR asc.reverse).reverse ∧ Below w.heap.size w w' := by
  have hbn := lt_block hb
  have h := plhalf_any 242 Bn N (fun i => N - 1 - i.1) (fun i => asc.getD (N - 1 - i.1) (0, 0)) w hN (enters_of Tryz.func242 (by kernel_rfl) rfl) hbn (fun i => hv _ (getD_memD (by rw [hA]; have := i.2; omega) (0, 0)))
    (fun W hW => slBackPt1_stops N c2 (some ⟨g, 0, none⟩) (ptX asc) Bn w.heap.size 4 (by omega) w W hR hN hW (Nat.le_refl _) hW.size (Nat.lt_of_lt_of_le hbn hW.size) (block_later hW hb))
  rwa [map_back asc hA] at h
set_option maxRecDepth 20000 in
set_option maxHeartbeats 4000000 in
theorem plHull_any (l : List Pt) (ad : Option Addr) (n c : Nat) (w : World) (h : PtsAt w (.slice ad n c) l) (hn : l.length = n) (h0 : 0 < n) (h200 : n ≤ 200) (hv : ∀ p ∈ l, Vld p.1 p.2) {r : List Pt} {k : Int} (hr : hullR l = (r, k)) :
    Calls Tryz.prog 53 #[.slice ad n c] w fun e w' => ∃ (ad' : Option Addr) (N c' : Nat), r.length = N ∧ e = .returned (.tuple #[.slice ad' N c', .int .i64 k]) ∧ OwnPt w.heap.size w' (.slice ad' N c') r ∧ Below w.heap.size w w' := by
  have HN := Lib.hid hn
  have H := Lib.hid h
  have HR := Lib.hid hr
  have hrows : Rows 2 w (.slice ad n c) n (ptX l) := by have := h.rows; rwa [hn] at this
  have RW := Lib.hid hrows
  have VV : Hid ((!decide (VldsX n (ptX l))) = false) := Lib.hid (by
    rw [Bool.not_eq_false', decide_eq_true_eq]
    intro i hi
    exact hv _ (getD_memD (by omega) (0, 0)))
  have VA : Hid (∀ p ∈ ascL l, Vld p.1 p.2) := Lib.hid (fun p hp => hv p ((asc_mem p l).1 hp))
  have hasc : ascL l ≠ [] := fun e => by
    obtain ⟨x, m, rfl⟩ := List.exists_cons_of_ne_nil (show l ≠ [] from fun e => by subst e; simp at hn; omega)
    have := (asc_mem x (x :: m)).2 (by simp)
    rw [e] at this
    simp at this
  have HASC := Lib.hid hasc
  have d0 : ((n : Int) == 0) = false := by simp; omega
  have d1 : decide ((200 : Int) < (n : Int)) = false := decide_eq_false (by omega)
  have d2 : (n : Int) ≤ 200 := by omega
  have hn64 : n ≤ 9223372036854775807 := by omega
  clear h hr hrows hv hn hasc
  go_enter Tryz.func53, Tryz.ntmps53
  go_wp2_with fail
  (with_reducible refine (cfPtsH_any n c ad (ptX l) _ RW.out hn64 VV.out).mono ?_)
  rintro e w1 ⟨rfl, hb1⟩
  go_wp2_with fail
  (with_reducible refine (clPts_any l ad n c _ (by have h := H.out; unfold PtsAt at h ⊢; exact Lists.later h hb1) HN.out h0 (by omega)).mono ?_)
  rintro e w2 ⟨g, c2, rfl, how2, hb2⟩
  have HOW2 := Lib.hid how2
  have hB2 := Lib.hid (below_step hb1 hb2)
  have HS1 := Lib.hid hb1.size
  clear how2
  go_wp2_with fail
  (with_reducible refine (slSortPt_any w1.heap.size g c2 n l _ HOW2.out HN.out (by omega)).mono ?_)
  rintro e w3 ⟨rfl, how3, hb3⟩
  have HOW3 := Lib.hid how3
  have hB3 := Lib.hid (hB2.out.trans (hb3.mono HS1.out))
  clear how3 hb3 HOW2
  go_wp2_with fail
  (with_reducible refine (slCompPt_any w1.heap.size g c2 n (l.mergeSort lePt) _ HOW3.out (by rw [List.length_mergeSort, HN.out]) (by omega)).mono ?_)
  rintro e w4 ⟨N, hN, rfl, how4, hb4⟩
  have hB4 := Lib.hid (hB3.out.trans (hb4.mono HS1.out))
  change (ascL l).length = N at hN
  replace how4 : OwnPt w1.heap.size w4 (.slice (some ⟨g, 0, none⟩) N c2) (ascL l) := how4
  have hN2 : N ≤ 200 := by
    have : (onceP (l.mergeSort lePt)).length ≤ (l.mergeSort lePt).length := once_len _
    rw [List.length_mergeSort, HN.out] at this
    have h2 : (onceP (l.mergeSort lePt)).length = N := hN
    omega
  have hN0 : 0 < N := by rw [← hN]; exact List.length_pos_iff.2 HASC.out
  have HNA := Lib.hid hN
  have PA := Lib.hid (how4.pts (by rw [hN]; omega))
  clear hN hb4 how4 HOW3
  obtain ⟨asc, hasc⟩ : ∃ a, ascL l = a := ⟨_, rfl⟩
  have HR2 : Hid (hullR l = (if (hullL asc).length < 3 then ([], 4) else if 24 < (hullL asc).length then ([], 2) else (hullL asc, 0))) := Lib.hid (by unfold hullR; rw [hasc])
  rw [hasc] at HNA PA VA HASC
  clear hasc
  have RA : Hid (Rows 2 w4 (.slice (some ⟨g, 0, none⟩) N c2) N (ptX asc)) := Lib.hid (by have := PA.out.rows; rwa [HNA.out] at this)
  clear PA
  go_wp2_with fail
  (with_reducible refine (slAllPt_any _ _ _ _).mono ?_)
  rintro e w5 ⟨rfl, hblk5, hb5⟩
  have hB5 := Lib.hid (hB4.out.trans (hb5.mono hB4.out.size))
  have BK5 := Lib.hid hblk5
  have S5 := Lib.hid hb5
  have hs5 := lt_block hblk5
  clear hblk5 hb5
  go_wp2_with fail
  (with_reducible refine (half_all g N c2 w4.heap.size asc _ HNA.out (by omega) VA.out (RA.out.later S5.out) BK5.out).mono ?_)
  rintro e w6 ⟨ad6, c6, N6, hN6, rfl, how6, hb6⟩
  have hB6 := Lib.hid (hB5.out.trans (hb6.mono hB5.out.size))
  have S6 := Lib.hid (below_step S5.out hb6)
  have OW6 := Lib.hid how6
  have L6 := Lib.hid hN6
  clear hN6 how6 hb6
  go_wp2_with fail
  (with_reducible refine (slBackPt_any _ _ _ _).mono ?_)
  rintro e w7 ⟨rfl, hblk7, hb7⟩
  have hB7 := Lib.hid (hB6.out.trans (hb7.mono hB6.out.size))
  have BK7 := Lib.hid hblk7
  have S7 := Lib.hid (below_step S6.out hb7)
  have OW7 := Lib.hid (OW6.out.keep hb7)
  have hs7 := lt_block hblk7
  clear hblk7 hb7
  go_wp2_with fail
  (with_reducible refine (half_back g N c2 w6.heap.size asc _ HNA.out (by omega) VA.out (RA.out.later S7.out) BK7.out).mono ?_)
  rintro e w8 ⟨ad8, c8, N8, hN8, rfl, how8, hb8⟩
  have hB8 := Lib.hid (hB7.out.trans (hb8.mono hB7.out.size))
  have OW8 := Lib.hid how8
  have OW9 := Lib.hid (OW7.out.keep hb8)
  have L8 := Lib.hid hN8
  clear hN8 how8 hb8
  have hne6 := half_some HASC.out
  have hne8 := half_some (l := asc.reverse) (by simpa using HASC.out)
  have h6 : 0 < N6 := by rw [← L6.out]; exact List.length_pos_iff.2 hne6
  have h8 : 0 < N8 := by rw [← L8.out]; exact List.length_pos_iff.2 hne8
  have m6 : N6 ≤ 200 := by
    have := halfP_len (n := N) (fun i => asc.getD i.1 (0, 0)) (List.finRange N)
    unfold halfP at this
    rw [map_all asc HNA.out, L6.out, List.length_finRange] at this
    omega
  have m8 : N8 ≤ 200 := by
    have := halfP_len (n := N) (fun i => asc.getD (N - 1 - i.1) (0, 0)) (List.finRange N)
    unfold halfP at this
    rw [map_back asc HNA.out, L8.out, List.length_finRange] at this
    omega
  obtain ⟨p6, hp6⟩ : ∃ p, N6 - 1 = p := ⟨_, rfl⟩
  obtain ⟨p8, hp8⟩ : ∃ p, N8 - 1 = p := ⟨_, rfl⟩
  have k6 : N6 ≤ c6 := own_cap OW9.out _ _ _ rfl
  have k8 : N8 ≤ c8 := own_cap OW8.out _ _ _ rfl
  obtain ⟨x6, hx6⟩ := drop_last (l := (halfR asc).reverse) (by simpa using hne6)
  obtain ⟨x8, hx8⟩ := drop_last (l := (halfR asc.reverse).reverse) (by simpa using hne8)
  have Q6 : Hid (PtsAt w8 (.slice ad6 p6 c6) (halfR asc).reverse.dropLast) := Lib.hid (by
    have h := OW9.out
    rw [hx6] at h
    have h2 := OwnPt.cut h (by rw [List.length_dropLast, List.length_reverse, L6.out]; omega)
    rw [hp6] at h2
    exact h2.pts (by rw [List.length_dropLast, List.length_reverse, L6.out]; omega))
  have Q8 : Hid (PtsAt w8 (.slice ad8 p8 c8) (halfR asc.reverse).reverse.dropLast) := Lib.hid (by
    have h := OW8.out
    rw [hx8] at h
    have h2 := OwnPt.cut h (by rw [List.length_dropLast, List.length_reverse, L8.out]; omega)
    rw [hp8] at h2
    exact h2.pts (by rw [List.length_dropLast, List.length_reverse, L8.out]; omega))
  have e6 : Hid ((halfR asc).reverse.dropLast.length = p6) := Lib.hid (by rw [List.length_dropLast, List.length_reverse, L6.out, hp6])
  have e8 : Hid ((halfR asc.reverse).reverse.dropLast.length = p8) := Lib.hid (by rw [List.length_dropLast, List.length_reverse, L8.out, hp8])
  have j1 : (N6 : Int) - 1 = (p6 : Int) := by omega
  have j2 : (N8 : Int) - 1 = (p8 : Int) := by omega
  have j3 : IntKind.i64.wrap (p6 : Int) = (p6 : Int) := IntWalk.i64_in _ (by omega)
  have j4 : IntKind.i64.wrap (p8 : Int) = (p8 : Int) := IntWalk.i64_in _ (by omega)
  have q6 : p6 ≤ c6 := by omega
  have q8 : p8 ≤ c8 := by omega
  have hp6b : p6 ≤ 500 := by omega
  have hp8b : p8 ≤ 500 := by omega
  clear hx6 hx8 hne6 hne8 hp6 hp8 OW7 OW6 OW8 OW9 h6 h8
  go_wp2_with fail
  refine wp_region_planS (KeepB w8 w8.heap.size []) (.take 0 (.take 0 (.take 0 (.take 0 (.take 0 (.take 0 (.take 0 (.take 0 (.take 0 (.take 0 (.only 0 (.only 0 (.take 0 .done))))))))))))) (by kernel_rfl) (by kernel_rfl) KeepB.refl (fun hP => ?_)
  (refine wsPlan_take rfl (fun K hK => ?_); replace hK := Lib.hid hK; go_simp; first | (refine hK.out _ ?_; clear hK K) | (apply Exists.intro; refine ⟨fun w' hw => ?_, hK.out _ ?_⟩; (first | with_reducible exact rfl | (go_simp; exact rfl)); clear hK K))
  (refine wsPlan_take rfl (fun K hK => ?_); replace hK := Lib.hid hK; go_simp; first | (refine hK.out _ ?_; clear hK K) | (apply Exists.intro; refine ⟨fun w' hw => ?_, hK.out _ ?_⟩; (first | with_reducible exact rfl | (go_simp; exact rfl)); clear hK K))
  (refine wsPlan_take rfl (fun K hK => ?_); replace hK := Lib.hid hK; go_simp; first | (refine hK.out _ ?_; clear hK K) | (apply Exists.intro; refine ⟨fun w' hw => ?_, hK.out _ ?_⟩; (first | with_reducible exact rfl | (go_simp; exact rfl)); clear hK K))
  (refine wsPlan_take rfl (fun K hK => ?_); replace hK := Lib.hid hK; go_simp; first | (refine hK.out _ ?_; clear hK K) | (apply Exists.intro; refine ⟨fun w' hw => ?_, hK.out _ ?_⟩; (first | with_reducible exact rfl | (go_simp; exact rfl)); clear hK K))
  (refine wsPlan_take rfl (fun K hK => ?_); replace hK := Lib.hid hK; go_simp; first | (refine hK.out _ ?_; clear hK K) | (apply Exists.intro; refine ⟨fun w' hw => ?_, hK.out _ ?_⟩; (first | with_reducible exact rfl | (go_simp; exact rfl)); clear hK K))
  (refine wsPlan_take rfl (fun K hK => ?_); replace hK := Lib.hid hK; go_simp; first | (refine hK.out _ ?_; clear hK K) | (apply Exists.intro; refine ⟨fun w' hw => ?_, hK.out _ ?_⟩; (first | with_reducible exact rfl | (go_simp; exact rfl)); clear hK K))
  (refine wsPlan_take rfl (fun K hK => ?_); replace hK := Lib.hid hK; go_simp; first | (refine hK.out _ ?_; clear hK K) | (apply Exists.intro; refine ⟨fun w' hw => ?_, hK.out _ ?_⟩; (first | with_reducible exact rfl | (go_simp; exact rfl)); clear hK K))
  (refine wsPlan_take rfl (fun K hK => ?_); replace hK := Lib.hid hK; go_simp; first | (refine hK.out _ ?_; clear hK K) | (apply Exists.intro; refine ⟨fun w' hw => ?_, hK.out _ ?_⟩; (first | with_reducible exact rfl | (go_simp; exact rfl)); clear hK K))
  (refine wsPlan_take rfl (fun K hK => ?_); replace hK := Lib.hid hK; go_simp; first | (refine hK.out _ ?_; clear hK K) | (apply Exists.intro; refine ⟨fun w' hw => ?_, hK.out _ ?_⟩; (first | with_reducible exact rfl | (go_simp; exact rfl)); clear hK K))
  (refine wsPlan_take rfl (fun K hK => ?_); replace hK := Lib.hid hK; go_simp; first | (refine hK.out _ ?_; clear hK K) | (apply Exists.intro; refine ⟨fun w' hw => ?_, hK.out _ ?_⟩; (first | with_reducible exact rfl | (go_simp; exact rfl)); clear hK K))
  generalize hwd : w8.drew = w9 at hP ⊢
  have S9 := Lib.hid (show Below w8.heap.size w8 w9 by rw [← hwd]; exact (Below.refl _ _).drew)
  clear hwd
  (refine wsPlan_only rfl (fun K hK => ?_); replace hK := Lib.hid hK; go_simp; refine hK.out _ _ (hP.call ((Below.refl _ _).alloc (Nat.le_refl _) _) (Nat.le_refl _) (fun b hb => by simp at hb)) (fun hP => ?_); clear hK K)
  have r10 := block_new w9 (.cells #[.slice ad6 p6 c6, .slice ad8 p8 c8] 29)
  have R10 := Lib.hid r10
  have S10 := Lib.hid ((Below.refl w9.heap.size w9).alloc (Nat.le_refl _) (.cells #[.slice ad6 p6 c6, .slice ad8 p8 c8] 29))
  clear r10
  (refine wsPlan_only rfl (fun K hK => ?_); replace hK := Lib.hid hK; go_simp; go_at_call 154; (with_reducible refine (slConcPt_two (halfR asc).reverse.dropLast (halfR asc.reverse).reverse.dropLast w9.heap.size p6 p8 c6 c8 ad6 ad8 _ R10.out (by have h := Q6.out; unfold PtsAt at h ⊢; exact Lists.later h (below_step S9.out S10.out)) (by have h := Q8.out; unfold PtsAt at h ⊢; exact Lists.later h (below_step S9.out S10.out)) e6.out e8.out hp6b hp8b).mono ?_); rintro e w11 ⟨ad11, c11, rfl, how11, hb11⟩; have OW11 := Lib.hid how11; have S11 := Lib.hid (below_step (below_step S9.out S10.out) hb11); clear how11 hb11; refine hK.out _ _ ⟨S11.out, fun b hb => by simp at hb⟩ (fun hP => ?_); clear hK K)
  (refine wsPlan_take rfl (fun K hK => ?_); replace hK := Lib.hid hK; go_simp; first | (refine hK.out _ ?_; clear hK K) | (apply Exists.intro; refine ⟨fun w' hw => ?_, hK.out _ ?_⟩; (first | with_reducible exact rfl | (go_simp; exact rfl)); clear hK K))
  refine wsPlan_done ?_
  have HH : Hid (OwnPt (w9.alloc (.cells #[.slice ad6 p6 c6, .slice ad8 p8 c8] 29)).heap.size w11 (.slice ad11 (p6 + p8) c11) (hullL asc)) := OW11
  obtain ⟨M, hM⟩ : ∃ M, p6 + p8 = M := ⟨_, rfl⟩
  rw [hM] at HH ⊢
  have HL : Hid ((hullL asc).length = M) := Lib.hid (by unfold hullL; rw [List.length_append, e6.out, e8.out, hM])
  have hM4 : M ≤ 400 := by omega
  have hBE := Lib.hid (hB8.out.trans (S11.out.mono hB8.out.size))
  have HRR := Lib.hid (HR.out.symm.trans HR2.out)
  clear hP hM OW11 HR HR2 j1 j2 j3 j4
  by_cases h3 : M < 3
  · have HE := HRR.out
    rw [HL.out, if_pos h3] at HE
    obtain ⟨rfl, rfl⟩ : r = [] ∧ k = 4 := ⟨congrArg Prod.fst HE, congrArg Prod.snd HE⟩
    have d3 : decide ((M : Int) < 3) = true := decide_eq_true (by omega)
    have d4 : (M : Int) < 3 := by omega
    clear HE
    go_wp2_with fail
    go_ret2
    exact ⟨none, 0, 0, rfl, rfl, OwnPt.nil _ w11, hBE.out⟩
  have d3 : decide ((M : Int) < 3) = false := decide_eq_false (by omega)
  have d4 : (3 : Int) ≤ (M : Int) := by omega
  by_cases h24 : 24 < M
  · have HE := HRR.out
    rw [HL.out, if_neg h3, if_pos h24] at HE
    obtain ⟨rfl, rfl⟩ : r = [] ∧ k = 2 := ⟨congrArg Prod.fst HE, congrArg Prod.snd HE⟩
    have d5 : decide ((24 : Int) < (M : Int)) = true := decide_eq_true (by omega)
    have d6 : (24 : Int) < (M : Int) := by omega
    clear HE h3
    go_wp2_with fail
    go_ret2
    exact ⟨none, 0, 0, rfl, rfl, OwnPt.nil _ w11, hBE.out⟩
  · have HE := HRR.out
    rw [HL.out, if_neg h3, if_neg h24] at HE
    obtain ⟨rfl, rfl⟩ : r = hullL asc ∧ k = 0 := ⟨congrArg Prod.fst HE, congrArg Prod.snd HE⟩
    have d5 : decide ((24 : Int) < (M : Int)) = false := decide_eq_false (by omega)
    have d6 : (M : Int) ≤ 24 := by omega
    clear HE h3 h24
    go_wp2_with fail
    go_ret2
    exact ⟨ad11, M, c11, HL.out, rfl, OwnT.mono HH.out (Nat.le_trans hB8.out.size (by have := S9.out.size; simp only [World.size_alloc]; omega)), hBE.out⟩
end Go.Proofs.YtdmegkkifiahdaaGreat
/- The walks of package span: the join of two valid boxes; of poly.Rect. -/
namespace Go.Proofs.YtdmegkkifiahdaaGreat
open Go.RowKit Go.Shelf
attribute [local go_sem] bqOp bqAll bqUpon sqOp sqAll sqUpon ssAll ssOp
attribute [local irreducible] wpQuiet wpBQ wpPlan wsPlan
set_option linter.unusedVariables false
theorem bx_spans {b : Bx} (h : BxOk b) : (-1000000000000 ≤ b.lx ∧ b.lx ≤ b.hx ∧ b.hx ≤ 1000000000000) ∧ -1000000000000 ≤ b.ly ∧ b.ly ≤ b.hy ∧ b.hy ≤ 1000000000000 := by
  obtain ⟨⟨h1, h2, h3⟩, h4, h5, h6⟩ := h
  omega
set_option maxHeartbeats 1000000 in
theorem spboxes_join (a b : Bx) (w : World) (ha : BxOk a) (hb : BxOk b) :
    Calls Tryz.prog 346 #[boxV a, boxV b, .func (.func 347) #[] #[]] w fun e w' => e = .returned (.tuple #[boxV (joinB a b), .int .i64 0]) ∧ Below w.heap.size w w' := by
  have sa := bx_spans ha
  have sb := bx_spans hb
  obtain ⟨a1, a2, a3, a4⟩ := a
  obtain ⟨b1, b2, b3, b4⟩ := b
  have A := Lib.hid (decide_eq_true ha)
  have B := Lib.hid (decide_eq_true hb)
  dsimp only [boxV, joinB] at sa sb ⊢
  obtain ⟨sa1, sa2⟩ := sa
  obtain ⟨sb1, sb2⟩ := sb
  obtain ⟨lx, hlx⟩ : ∃ t, min a1 b1 = t := ⟨_, rfl⟩
  obtain ⟨hx, hhx⟩ : ∃ t, max a2 b2 = t := ⟨_, rfl⟩
  obtain ⟨ly, hly⟩ : ∃ t, min a3 b3 = t := ⟨_, rfl⟩
  obtain ⟨hy, hhy⟩ : ∃ t, max a4 b4 = t := ⟨_, rfl⟩
  rw [hlx, hhx, hly, hhy]
  have SA1 := Lib.hid sa1
  have SA2 := Lib.hid sa2
  have SB1 := Lib.hid sb1
  have SB2 := Lib.hid sb2
  have LX := Lib.hid hlx
  have UX := Lib.hid hhx
  have LY := Lib.hid hly
  have UY := Lib.hid hhy
  clear ha hb sa1 sa2 sb1 sb2 hlx hhx hly hhy
  go_enter Tryz.func346, Tryz.ntmps346
  go_wp2_with fail
  refine calls_named fun W hW => ?_
  obtain ⟨p1, p2, p3, hB⟩ := box3 hW
  clear hW
  have P3 := Lib.hid p3
  have q1 := cellsL p1
  have q2 := cellsL p2
  clear p1 p2 p3
  (with_reducible refine (spValidBox_any _ _ _ _ _ A.out).mono ?_)
  rintro z w1 ⟨rfl, hb1⟩
  go_wp2_with fail
  (with_reducible refine (spValidBox_any _ _ _ _ _ B.out).mono ?_)
  rintro z w2 ⟨rfl, hb2⟩
  have hW2 := below_step hb1 hb2
  clear hb1 hb2
  go_wp2_with fail
  go_at_call 347
  (with_reducible refine (spJoin_yes _ _ _ _ _ SA1.out SB1.out LX.out UX.out).mono ?_)
  rintro z w3 ⟨rfl, hb3⟩
  have hW3 := below_step hW2 hb3
  have hA3 := fun o => hW3.alloc hW3.size o
  clear hW2 hb3
  go_wp2_with fail
  refine calls_named fun W4 hW4 => ?_
  obtain ⟨p4, hb4⟩ := box1 hW4
  clear hW4 hA3
  have hW4 := below_step hW3 hb4
  go_at_call 347
  (with_reducible refine (spJoin_yes _ _ _ _ _ SA2.out SB2.out LY.out UY.out).mono ?_)
  rintro z w5 ⟨rfl, hb5⟩
  have hW5 := below_step hW4 hb5
  have hal := (Below.refl w5.heap.size w5).alloc (Nat.le_refl _) (.cells #[.int .i64 ly, .int .i64 hy] 238)
  have r3 := block_later hal (block_later hW5 P3.out)
  have r4 := block_later hal (block_later hb5 p4)
  have f3 := free_block r3
  have c3 := cell_block r3
  have c4 := cell_block r4
  have R3 := Lib.hid r3
  clear r3 p4 r4 hb4 hb5 hal
  have hB5 := below_step hB hW5
  go_wp2_with fail
  have c9 := cell_block (block_set (i := 3) (block_set (i := 2) (block_set (i := 1) (block_set (i := 0) R3.out (.int .i64 lx)) (.int .i64 hx)) (.int .i64 ly)) (.int .i64 hy))
  exact bodyPost_ret (v := .tuple #[.agg #[.int .i64 lx, .int .i64 hx, .int .i64 ly, .int .i64 hy], .int .i64 0]) (by simp [results, Tryz.results346, go_sem, c9]) rfl ⟨rfl, ((((hB5.alloc hB5.size _).setCell (by dsimp only; omega) _).setCell (by dsimp only; omega) _).setCell (by dsimp only; omega) _).setCell (by dsimp only; omega) _⟩
theorem spJoinBox_any (a b : Bx) (w : World) (ha : BxOk a) (hb : BxOk b) {c : Bx} (hc : joinB a b = c) :
    Calls Tryz.prog 257 #[boxV a, boxV b] w fun e w' => e = .returned (.tuple #[boxV c, .int .i64 0]) ∧ Below w.heap.size w w' := by
  have HA := Lib.hid ha
  have HB := Lib.hid hb
  have HC := Lib.hid hc
  clear ha hb hc
  go_enter Tryz.func257, Tryz.ntmps257
  go_wp2_with fail
  refine calls_named fun W hW => ?_
  obtain ⟨p1, p2, p3, hB⟩ := box3 hW
  clear hW
  have P3 := Lib.hid p3
  clear p1 p2 p3
  (with_reducible refine (spboxes_join a b _ HA.out HB.out).mono ?_)
  rintro z w1 ⟨rfl, hb1⟩
  rw [HC.out]
  have r3 := block_later hb1 P3.out
  have f3 := free_block r3
  have c3 := cell_block r3
  have R3 := Lib.hid r3
  clear r3
  have hB1 := below_step hB hb1
  dsimp only [boxV]
  go_wp2_with fail
  have c9 := cell_block (block_set (i := 3) (block_set (i := 2) (block_set (i := 1) (block_set (i := 0) R3.out (.int .i64 c.lx)) (.int .i64 c.hx)) (.int .i64 c.ly)) (.int .i64 c.hy))
  exact bodyPost_ret (v := .tuple #[.agg #[.int .i64 c.lx, .int .i64 c.hx, .int .i64 c.ly, .int .i64 c.hy], .int .i64 0]) (by simp [results, Tryz.results257, go_sem, c9]) rfl ⟨rfl, (((hB1.setCell (by dsimp only; omega) _).setCell (by dsimp only; omega) _).setCell (by dsimp only; omega) _).setCell (by dsimp only; omega) _⟩
/-- What Rect answers at a valid box: the corners, or the error 4. -/
def rectR (b : Bx) : List Pt × Int := match rectB b with | some l => (l, 0) | none => ([], 4)
theorem plRect_any (b : Bx) (w : World) (hb : BxOk b) {l : List Pt} {k : Int} (hr : rectR b = (l, k)) :
    Calls Tryz.prog 258 #[boxV b] w fun e w' => ∃ (ad : Option Addr) (n c : Nat), l.length = n ∧ e = .returned (.tuple #[.slice ad n c, .int .i64 k]) ∧ OwnPt w.heap.size w' (.slice ad n c) l ∧ Below w.heap.size w w' := by
  obtain ⟨lx, hx, ly, hy⟩ := b
  have B := Lib.hid (decide_eq_true hb)
  unfold rectR rectB at hr
  dsimp only [boxV] at hr ⊢
  by_cases h1 : lx = hx
  · rw [if_pos (.inl h1)] at hr
    cases hr
    have d : (lx == hx) = true := by simp [h1]
    clear h1 hb
    go_enter Tryz.func258, Tryz.ntmps258
    go_wp2_with fail
    refine calls_named fun W hW => ?_
    obtain ⟨p1, hB⟩ := box1 hW
    clear hW
    (with_reducible refine (spValidBox_any _ _ _ _ _ B.out).mono ?_)
    rintro z w1 ⟨rfl, hb1⟩
    have c1 := cell_block (block_later hb1 p1)
    go_wp2_with fail
    go_ret2
    exact ⟨none, 0, 0, rfl, rfl, OwnPt.nil _ w1, below_step hB hb1⟩
  have d1 : (lx == hx) = false := by simpa using h1
  by_cases h2 : ly = hy
  · rw [if_pos (.inr h2)] at hr
    cases hr
    have d : (ly == hy) = true := by simp [h2]
    clear h1 h2 hb
    go_enter Tryz.func258, Tryz.ntmps258
    go_wp2_with fail
    refine calls_named fun W hW => ?_
    obtain ⟨p1, hB⟩ := box1 hW
    clear hW
    (with_reducible refine (spValidBox_any _ _ _ _ _ B.out).mono ?_)
    rintro z w1 ⟨rfl, hb1⟩
    have c1 := cell_block (block_later hb1 p1)
    go_wp2_with fail
    go_ret2
    exact ⟨none, 0, 0, rfl, rfl, OwnPt.nil _ w1, below_step hB hb1⟩
  rw [if_neg (by omega)] at hr
  cases hr
  have d2 : (ly == hy) = false := by simpa using h2
  clear h1 h2 hb
  go_enter Tryz.func258, Tryz.ntmps258
  go_wp2_with fail
  refine calls_named fun W hW => ?_
  obtain ⟨p1, hB⟩ := box1 hW
  clear hW
  (with_reducible refine (spValidBox_any _ _ _ _ _ B.out).mono ?_)
  rintro z w1 ⟨rfl, hb1⟩
  have c1 := cell_block (block_later hb1 p1)
  have hB1 := below_step hB hb1
  go_wp2_with fail
  go_ret2
  refine ⟨_, 4, 4, rfl, rfl, (World.ownsRow_lit (base := w.heap.size) (e := 28) (size := 2) w1 #[.int .i64 lx, .int .i64 ly, .int .i64 hx, .int .i64 ly, .int .i64 hx, .int .i64 hy, .int .i64 lx, .int .i64 hy] 4 hB1.size (by decide) rfl), hB1.alloc hB1.size _⟩
end Go.Proofs.YtdmegkkifiahdaaGreat
/- The walk of transport's area.carried. -/
namespace Go.Proofs.YtdmegkkifiahdaaGreat
open Go.RowKit Go.Shelf
attribute [local go_sem] bqOp bqAll bqUpon sqOp sqAll sqUpon ssAll ssOp
attribute [local irreducible] wpQuiet wpBQ wpPlan wsPlan
attribute [local go_sem high] run_maxW run_minW run_max4W
set_option linter.unusedVariables false
def allC (m : Dat) (l : List Pt) : List Pt := l.flatMap fun p => cornersB (boxOf m p)
theorem allC_snoc (m : Dat) {l : List Pt} {k : Nat} (h : k < l.length) : allC m (l.take (k + 1)) = allC m (l.take k) ++ cornersB (boxOf m (l.getD k (0, 0))) := by
  have e : l.take (k + 1) = l.take k ++ [l.getD k (0, 0)] := by
    rw [List.take_succ_eq_append_getElem h, List.getD_eq_getElem?_getD, List.getElem?_eq_getElem h]
    rfl
  unfold allC
  rw [e, List.flatMap_append]
  simp
theorem allC_len (m : Dat) (l : List Pt) : (allC m l).length = l.length * 4 := by
  unfold allC
  induction l with
  | nil => rfl
  | cons x l ih =>
    rw [List.flatMap_cons, List.length_append, ih, List.length_cons, Nat.add_mul]
    show 4 + _ = _
    omega
theorem joinL_snoc (m : Dat) {l : List Pt} {k : Nat} (h : k < l.length) (h0 : 0 < k) : joinL m (l.take (k + 1)) = joinB (joinL m (l.take k)) (boxOf m (l.getD k (0, 0))) := by
  have e : l.take (k + 1) = l.take k ++ [l.getD k (0, 0)] := by
    rw [List.take_succ_eq_append_getElem h, List.getD_eq_getElem?_getD, List.getElem?_eq_getElem h]
    rfl
  rw [e]
  obtain ⟨x, r, hx⟩ := List.exists_cons_of_ne_nil (show l.take k ≠ [] from fun e => by
    have h2 : (l.take k).length = 0 := by rw [e]; rfl
    rw [List.length_take] at h2
    omega)
  rw [hx]
  unfold joinL
  rw [List.cons_append]
  simp only [List.foldl_append, List.foldl_cons, List.foldl_nil]
theorem joinL_one (m : Dat) {l : List Pt} (h : 0 < l.length) : joinL m (l.take 1) = boxOf m (l.getD 0 (0, 0)) := by
  obtain ⟨x, r, rfl⟩ := List.exists_cons_of_ne_nil (show l ≠ [] from fun e => by subst e; simp at h)
  rfl
theorem join_same (b : Bx) : joinB b b = b := by
  obtain ⟨a, b, c, d⟩ := b
  unfold joinB
  simp
theorem join_ok {a b : Bx} (ha : BxOk a) (hb : BxOk b) : BxOk (joinB a b) := by
  obtain ⟨⟨a1, a2, a3⟩, a4, a5, a6⟩ := ha
  obtain ⟨⟨b1, b2, b3⟩, b4, b5, b6⟩ := hb
  unfold joinB
  exact ⟨⟨by dsimp only; omega, by dsimp only; omega, by dsimp only; omega⟩, by dsimp only; omega, by dsimp only; omega, by dsimp only; omega⟩
theorem corners_vld {b : Bx} (h : BxOk b) : ∀ p ∈ cornersB b, Vld p.1 p.2 := by
  obtain ⟨⟨h1, h2, h3⟩, h4, h5, h6⟩ := h
  intro p hp
  unfold cornersB at hp
  simp only [List.mem_cons, List.not_mem_nil, or_false] at hp
  rcases hp with rfl | rfl | rfl | rfl <;> exact ⟨by dsimp only; omega, by dsimp only; omega, by dsimp only; omega, by dsimp only; omega⟩
/-- What the hull's or the rectangle's answer makes of an area. -/
theorem areaD_hull {m : Dat} {l : List Pt} (hb : ∀ p ∈ l, BxOk (boxOf m p)) {r : List Pt} {k : Int} (h : hullR (allC m l) = (r, k)) (h2 : k ≠ 2) : areaD m l = if k = 0 then some r else none := by
  unfold areaD allD
  rw [if_pos hb]
  show (match hullP (allC m l) with | none => none | some h => if 24 < h.length then rectB (joinL m l) else some h) = _
  unfold hullP
  unfold hullR at h
  by_cases c3 : (hullL (ascL (allC m l))).length < 3
  · rw [if_pos c3] at h ⊢
    cases h
    rfl
  · rw [if_neg c3] at h ⊢
    by_cases c24 : 24 < (hullL (ascL (allC m l))).length
    · rw [if_pos c24] at h
      cases h
      exact absurd rfl h2
    · rw [if_neg c24] at h
      cases h
      show (if 24 < (hullL (ascL (allC m l))).length then rectB (joinL m l) else some (hullL (ascL (allC m l)))) = _
      rw [if_neg c24]
      rfl
theorem areaD_rect {m : Dat} {l : List Pt} (hb : ∀ p ∈ l, BxOk (boxOf m p)) {r : List Pt} (h : hullR (allC m l) = (r, 2)) : areaD m l = rectB (joinL m l) := by
  unfold areaD allD
  rw [if_pos hb]
  show (match hullP (allC m l) with | none => none | some h => if 24 < h.length then rectB (joinL m l) else some h) = _
  unfold hullP
  unfold hullR at h
  by_cases c3 : (hullL (ascL (allC m l))).length < 3
  · rw [if_pos c3] at h
    cases h
  · rw [if_neg c3] at h ⊢
    by_cases c24 : 24 < (hullL (ascL (allC m l))).length
    · show (if 24 < (hullL (ascL (allC m l))).length then rectB (joinL m l) else some (hullL (ascL (allC m l)))) = _
      rw [if_pos c24]
    · rw [if_neg c24] at h
      cases h
theorem areaD_out {m : Dat} {l : List Pt} {p : Pt} (hp : p ∈ l) (h : ¬ BxOk (boxOf m p)) : areaD m l = none := by
  unfold areaD allD
  rw [if_neg (fun hb => h (hb p hp))]
theorem take_boxes {m : Dat} {l : List Pt} {k : Nat} (hk : k < l.length) (h : ∀ p ∈ l.take k, BxOk (boxOf m p)) (hb : BxOk (boxOf m (l.getD k (0, 0)))) : ∀ p ∈ l.take (k + 1), BxOk (boxOf m p) := by
  have e : l.take (k + 1) = l.take k ++ [l.getD k (0, 0)] := by
    rw [List.take_succ_eq_append_getElem hk, List.getD_eq_getElem?_getD, List.getElem?_eq_getElem hk]
    rfl
  intro p hp
  rw [e, List.mem_append] at hp
  rcases hp with hp | hp
  · exact h p hp
  · rw [List.mem_singleton] at hp
    rw [hp]
    exact hb
/-- What area.carried gives. -/
def AreaGive (m : Dat) (l : List Pt) (w : World) (e : Ending) (w' : World) : Prop :=
  ∃ (ad : Option Addr) (N c : Nat) (r : List Pt) (u : Bool), r.length = N ∧ e = .returned (.tuple #[.iface 215 (.agg #[.slice ad N c]), .bool u]) ∧ (u = true → OwnPt w.heap.size w' (.slice ad N c) r) ∧ areaD m l = (if u = true then some r else none) ∧ Below w.heap.size w w'
set_option maxRecDepth 20000 in
set_option maxHeartbeats 4000000 in
theorem trarea_any (m : Dat) (l : List Pt) (ad : Option Addr) (n c : Nat) (w : World) (hm : DatOk m) (h : PtsAt w (.slice ad n c) l) (hn : l.length = n) (h0 : 0 < n) (h24 : n ≤ 24) (hv : ∀ p ∈ l, Vld p.1 p.2) :
    Calls Tryz.prog 166 #[.agg #[.slice ad n c], carV m] w (AreaGive m l w) := by
  have HN := Lib.hid hn
  have H := Lib.hid h
  have HM := Lib.hid hm
  have HV := Lib.hid hv
  have hrows : Rows 2 w (.slice ad n c) n (ptX l) := by have := h.rows; rwa [hn] at this
  have RW := Lib.hid hrows
  clear h hrows hm hv hn
  go_enter Tryz.func166, Tryz.ntmps166
  go_wp2_with fail
  refine wp_named fun W hW => ?_
  obtain ⟨p1, p2, p3, hB⟩ := box3 hW
  clear hW
  have P1 := Lib.hid p1
  have P2 := Lib.hid p2
  have P3 := Lib.hid p3
  have HB := Lib.hid hB
  have hWs := lt_block p3
  clear p1 p2 p3 hB
  go_loopw [6, 17] (fun t i wr => ∃ (k N : Nat) (ad' : Option Addr) (c' : Nat) (b : Bx), k ≤ n ∧ i = .int .i64 k ∧ t = .slice ad' N c' ∧ k * 4 = N ∧ (∀ p ∈ l.take k, BxOk (boxOf m p)) ∧ OwnPt W.heap.size wr (.slice ad' N c') (allC m (l.take k)) ∧ Below w.heap.size w wr ∧ W.heap.size ≤ wr.heap.size ∧ wr.heap[w.heap.size]? = some (.cells #[.slice ad n c] 215 (0, 0)) ∧ wr.heap[w.heap.size + 1]? = W.heap[w.heap.size + 1]? ∧ wr.heap[w.heap.size + 2]? = some (.cells #[.int .i64 b.lx, .int .i64 b.hx, .int .i64 b.ly, .int .i64 b.hy] 240 (0, 0)) ∧ (0 < k → BxOk b ∧ b = joinL m (l.take k))) (fun _ i _ => n - (Go.RowKit.intOf i).toNat)
  case atStart => exact ⟨0, 0, none, 0, ⟨0, 0, 0, 0⟩, by omega, rfl, rfl, rfl, fun p hp => by simp at hp, OwnPt.nil _ _, HB.out, Nat.le_refl _, P1.out, rfl, P3.out, fun h => by omega⟩
  case round =>
    obtain ⟨k, N, ad', c', b0, hk, rfl, rfl, hN, hok, how, hbr, hsr, hb1, hb2, hb3, hj⟩ := hrel
    have OK := Lib.hid hok
    have HO := Lib.hid how
    have BR := Lib.hid hbr
    have Q1 := Lib.hid hb1
    have Q2 := Lib.hid (hb2.trans P2.out)
    have Q3 := Lib.hid hb3
    have HJ := Lib.hid hj
    have hNN := Lib.hid hN
    clear hok how hbr hb1 hb2 hb3 hj
    by_cases hlt : k < n
    rotate_left
    · obtain rfl : k = n := by omega
      have hk2 : l.take k = l := by rw [← HN.out, List.take_length]
      rw [hk2] at OK HO HJ
      obtain ⟨⟨r, e⟩, hr⟩ : ∃ q, hullR (allC m l) = q := ⟨_, rfl⟩
      have HR := Lib.hid hr
      have LC : Hid ((allC m l).length = N) := Lib.hid (by rw [allC_len, HN.out]; exact hNN.out)
      have VC : Hid (∀ p ∈ allC m l, Vld p.1 p.2) := Lib.hid (fun p hp => by
        obtain ⟨q, hq, hp⟩ := List.mem_flatMap.1 hp
        exact corners_vld (OK.out q hq) p hp)
      have PT := Lib.hid (HO.out.pts (by rw [LC.out]; omega))
      clear hr
      go_wp2_with fail
      (with_reducible refine (plHull_any (allC m l) ad' N c' _ PT.out LC.out (by omega) (by omega) VC.out HR.out).mono ?_)
      rintro z w1 ⟨ad2, N2, c2, hN2, rfl, hpts, hx1⟩
      have PT2 := Lib.hid hpts
      have L2 := Lib.hid hN2
      have BE := Lib.hid (BR.out.trans (hx1.mono BR.out.size))
      have q3 := block_later hx1 Q3.out
      have c3 := cell_block q3
      clear hpts hN2 q3
      by_cases h2 : e = 2
      · have d2 : (e == 2) = true := by simp [h2]
        subst h2
        obtain ⟨hb0, hbj⟩ := HJ.out (by omega)
        have HB0 := Lib.hid hb0
        obtain ⟨⟨r2, e2⟩, hr2⟩ : ∃ q, rectR b0 = q := ⟨_, rfl⟩
        have HR2 := Lib.hid hr2
        have HA : Hid (areaD m l = rectB b0) := Lib.hid (by rw [areaD_rect OK.out HR.out, ← hbj])
        clear hb0 hbj hr2
        go_wp2_with fail
        (with_reducible refine (plRect_any b0 _ HB0.out HR2.out).mono ?_)
        rintro z w2 ⟨ad3, N3, c3, hN3, rfl, hpts3, hx2⟩
        have PT3 := Lib.hid hpts3
        have L3 := Lib.hid hN3
        have hBE2 := BE.out.trans (hx2.mono BE.out.size)
        clear hpts3 hN3
        go_wp2_with fail
        go_ret2
        refine ⟨ad3, N3, c3, r2, e2 == 0, L3.out, rfl, fun _ => OwnT.mono PT3.out BE.out.size, ?_, hBE2⟩
        have h := HR2.out
        rw [HA.out]
        unfold rectR at h
        split at h
        · next hl => cases h; exact hl
        · next hl => cases h; exact hl
      · have d2 : (e == 2) = false := by simpa using h2
        go_wp2_with fail
        go_ret2
        refine ⟨ad2, N2, c2, r, e == 0, L2.out, rfl, fun _ => OwnT.mono PT2.out BR.out.size, ?_, BE.out⟩
        rw [areaD_hull OK.out HR.out h2]
        simp only [beq_iff_eq]
    have hlt' : k < l.length := by have := HN.out; omega
    obtain ⟨g, o, rfl, hc⟩ := (RW.out.later BR.out).row hlt
    have r0 := hc 0 (by omega)
    have r1 := hc 1 (by omega)
    simp only [Nat.add_zero] at r0
    obtain ⟨⟨x, y⟩, hxy⟩ : ∃ q, l.getD k (0, 0) = q := ⟨_, rfl⟩
    have hvx := HV.out _ (getD_memD hlt' (0, 0))
    have s0 := allC_snoc m hlt'
    have s1 := fun h => joinL_snoc m hlt' h
    have s2 := fun h hb => take_boxes (m := m) hlt' h hb
    have s3 : ¬ BxOk (boxOf m (l.getD k (0, 0))) → areaD m l = none := fun h => areaD_out (getD_memD hlt' (0, 0)) h
    have s4 := fun h => joinL_one m (l := l) h
    have ex : ptX l k 0 = x := by show (l.getD k (0, 0)).1 = x; rw [hxy]
    have ey : ptX l k 1 = y := by show (l.getD k (0, 0)).2 = y; rw [hxy]
    rw [ex] at r0
    rw [ey] at r1
    rw [hxy] at hvx s0 s1 s2 s3
    have VX := Lib.hid (show Vld x y from hvx)
    have S0 := Lib.hid s0
    have S1 := Lib.hid s1
    have S2 := Lib.hid s2
    have S3 := Lib.hid s3
    have S4 := Lib.hid s4
    have XY := Lib.hid hxy
    obtain ⟨b, e, hbe⟩ : ∃ b e, carR (boxOf m (x, y)) = (b, e) := ⟨_, _, rfl⟩
    have HBE := Lib.hid hbe
    have hszk : w.heap.size + 2 < wr.heap.size := by omega
    have c2 := fun ob => cell_block (block_later ((Below.refl wr.heap.size wr).alloc (Nat.le_refl _) ob) Q2.out)
    clear hc hxy hvx s0 s1 s2 s3 s4 ex ey hbe
    go_wp2_with fail
    refine calls_named fun W1 hW1 => ?_
    obtain ⟨_, hx1⟩ := box1 hW1
    clear hW1 r0 r1 c2
    (with_reducible refine (dtApply_any m _ _ _ HM.out VX.out HBE.out).mono ?_)
    rintro z w2 ⟨rfl, hx2⟩
    have X2 := Lib.hid (below_step hx1 hx2)
    clear hx1 hx2
    rcases carR_cases HBE.out with ⟨hbok, hbb, rfl⟩ | ⟨hbno, rfl, rfl⟩
    rotate_left
    · have c1 := fun ob => cell_block (block_later ((Below.refl w2.heap.size w2).alloc (Nat.le_refl _) ob) (block_later X2.out Q1.out))
      have HA := Lib.hid (S3.out hbno)
      clear hbno
      go_wp2_with fail
      go_ret2
      exact ⟨some ⟨g, o, none⟩, n, c, l, false, HN.out, rfl, (fun h => nomatch h), HA.out, (BR.out.trans (X2.out.mono BR.out.size)).alloc (by have := BR.out.size; have := X2.out.size; omega) _⟩
    have BOK : Hid (BxOk b) := Lib.hid (by rw [hbb]; exact hbok)
    have HBB := Lib.hid hbb
    have OK2 := Lib.hid (S2.out OK.out hbok)
    clear hbok hbb
    go_wp2_with fail
    refine calls_named fun W3 hW3 => ?_
    obtain ⟨p10, hx3⟩ := box1 hW3
    clear hW3
    (with_reducible refine (trcorners_any b _).mono ?_)
    rintro z w4 ⟨rfl, hcb, hx4⟩
    have p10b := block_later hx4 p10
    have X4 := Lib.hid (below_step X2.out (below_step hx3 hx4))
    have hs10 := lt_block p10b
    have P10 := Lib.hid p10b
    have CB := Lib.hid hcb
    have hs4 := X4.out.size
    have hs2 := X2.out.size
    clear p10 hx3 hx4 p10b hcb
    have LC : Hid ((allC m (l.take k)).length = N) := Lib.hid (by rw [allC_len, List.length_take, Nat.min_eq_left (by omega)]; exact hNN.out)
    go_wp2_with fail
    (with_reducible refine (slSeqPt_corners b W3.heap.size W.heap.size N c' ad' (allC m (l.take k)) _ (HO.out.keep X4.out) LC.out (by have := hNN.out; omega) (by omega) CB.out).mono ?_)
    rintro z w5 ⟨ad5, c5, rfl, how5, hx5, hnp⟩
    have HO5 : Hid (OwnPt W.heap.size w5 (.slice ad5 (N + 4) c5) (allC m (l.take (k + 1)))) := Lib.hid (by rw [S0.out, ← HBB.out]; exact how5)
    have keep : ∀ j o, j < W.heap.size → wr.heap[j]? = some o → w5.heap[j]? = some o := fun j o hj h => (hx5.block j hj).trans ((X4.out.block j (by omega)).trans h)
    have q1 := keep _ _ (by omega) Q1.out
    have q2 := keep _ _ (by omega) Q2.out
    have q3 := keep _ _ (by omega) Q3.out
    have q10 := hnp _ _ _ _ (by decide) P10.out
    have R1 := Lib.hid q1
    have R2 := Lib.hid q2
    have R3 := Lib.hid q3
    have R10 := Lib.hid q10
    have B5 := Lib.hid (BR.out.trans ((X4.out.mono BR.out.size).trans (hx5.mono (by have := BR.out.size; have := HB.out.size; omega))))
    have hs5 := hx5.size
    have HNE := Lib.hid (own_ne HO5.out q3 (by decide))
    have f3 := free_block q3
    have c3 := cell_block q3
    have c10 := cell_block q10
    clear how5 hx5 hnp keep q1 q2 q3 q10
    rcases Nat.eq_zero_or_pos k with rfl | hk0
    · have e3 := (block_set (i := 3) (block_set (i := 2) (block_set (i := 1) (block_set (i := 0) R3.out (.int .i64 b.lx)) (.int .i64 b.hx)) (.int .i64 b.ly)) (.int .i64 b.hy))
      have e10 := (block_far (a := ⟨w.heap.size + 2, 3, none⟩) (block_far (a := ⟨w.heap.size + 2, 2, none⟩) (block_far (a := ⟨w.heap.size + 2, 1, none⟩) (block_far (a := ⟨w.heap.size + 2, 0, none⟩) R10.out (by dsimp only; omega) (.int .i64 b.lx)) (by dsimp only; omega) (.int .i64 b.hx)) (by dsimp only; omega) (.int .i64 b.ly)) (by dsimp only; omega) (.int .i64 b.hy))
      have e1 := (block_far (a := ⟨w.heap.size + 2, 3, none⟩) (block_far (a := ⟨w.heap.size + 2, 2, none⟩) (block_far (a := ⟨w.heap.size + 2, 1, none⟩) (block_far (a := ⟨w.heap.size + 2, 0, none⟩) R1.out (by dsimp only; omega) (.int .i64 b.lx)) (by dsimp only; omega) (.int .i64 b.hx)) (by dsimp only; omega) (.int .i64 b.ly)) (by dsimp only; omega) (.int .i64 b.hy))
      have e2 := (block_far (a := ⟨w.heap.size + 2, 3, none⟩) (block_far (a := ⟨w.heap.size + 2, 2, none⟩) (block_far (a := ⟨w.heap.size + 2, 1, none⟩) (block_far (a := ⟨w.heap.size + 2, 0, none⟩) R2.out (by dsimp only; omega) (.int .i64 b.lx)) (by dsimp only; omega) (.int .i64 b.hx)) (by dsimp only; omega) (.int .i64 b.ly)) (by dsimp only; omega) (.int .i64 b.hy))
      have t3 := cell_block e3
      have t10 := cell_block e10
      have u3 := free_block e3
      have E1 := Lib.hid e1
      have E2 := Lib.hid e2
      have E3 := Lib.hid e3
      have B6 := Lib.hid (((((B5.out.setCell (p := ⟨w.heap.size + 2, 0, none⟩) (by dsimp only; omega) (.int .i64 b.lx)).setCell (p := ⟨w.heap.size + 2, 1, none⟩) (by dsimp only; omega) (.int .i64 b.hx)).setCell (p := ⟨w.heap.size + 2, 2, none⟩) (by dsimp only; omega) (.int .i64 b.ly)).setCell (p := ⟨w.heap.size + 2, 3, none⟩) (by dsimp only; omega) (.int .i64 b.hy)))
      have O6 := Lib.hid ((own_set (g := w.heap.size + 2) (i := 3) (own_set (g := w.heap.size + 2) (i := 2) (own_set (g := w.heap.size + 2) (i := 1) (own_set (g := w.heap.size + 2) (i := 0) HO5.out (HNE.out) (.int .i64 b.lx)) (HNE.out) (.int .i64 b.hx)) (HNE.out) (.int .i64 b.ly)) (HNE.out) (.int .i64 b.hy)))
      clear e1 e2 e3 e10
      go_wp2_with fail
      (with_reducible refine (spJoinBox_any b b _ BOK.out BOK.out (join_same b)).mono ?_)
      rintro z w7 ⟨rfl, hx7⟩
      have g3 := block_later hx7 E3.out
      have f7 := free_block g3
      have c7 := cell_block g3
      have G3 := Lib.hid g3
      clear g3 t3 t10 u3 f3 c3 c10
      have hs7 := hx7.size
      simp only [World.size_setCell] at hs7
      have HNE := Lib.hid (own_ne (OwnPt.keep O6.out hx7) G3.out (by decide))
      go_wp2_with fail
      go_roundw
      case rel => exact ⟨1, N + 4, ad5, c5, b, by omega, by rfl, rfl, by have := hNN.out; omega, OK2.out, (own_set (g := w.heap.size + 2) (i := 3) (own_set (g := w.heap.size + 2) (i := 2) (own_set (g := w.heap.size + 2) (i := 1) (own_set (g := w.heap.size + 2) (i := 0) (OwnPt.keep O6.out hx7) (HNE.out) (.int .i64 b.lx)) (HNE.out) (.int .i64 b.hx)) (HNE.out) (.int .i64 b.ly)) (HNE.out) (.int .i64 b.hy)), (((((B6.out.trans (hx7.mono B6.out.size)).setCell (p := ⟨w.heap.size + 2, 0, none⟩) (by dsimp only; omega) (.int .i64 b.lx)).setCell (p := ⟨w.heap.size + 2, 1, none⟩) (by dsimp only; omega) (.int .i64 b.hx)).setCell (p := ⟨w.heap.size + 2, 2, none⟩) (by dsimp only; omega) (.int .i64 b.ly)).setCell (p := ⟨w.heap.size + 2, 3, none⟩) (by dsimp only; omega) (.int .i64 b.hy)), by simp only [World.size_setCell]; omega, (block_far (a := ⟨w.heap.size + 2, 3, none⟩) (block_far (a := ⟨w.heap.size + 2, 2, none⟩) (block_far (a := ⟨w.heap.size + 2, 1, none⟩) (block_far (a := ⟨w.heap.size + 2, 0, none⟩) (block_later hx7 E1.out) (by dsimp only; omega) (.int .i64 b.lx)) (by dsimp only; omega) (.int .i64 b.hx)) (by dsimp only; omega) (.int .i64 b.ly)) (by dsimp only; omega) (.int .i64 b.hy)), ((block_far (a := ⟨w.heap.size + 2, 3, none⟩) (block_far (a := ⟨w.heap.size + 2, 2, none⟩) (block_far (a := ⟨w.heap.size + 2, 1, none⟩) (block_far (a := ⟨w.heap.size + 2, 0, none⟩) (block_later hx7 E2.out) (by dsimp only; omega) (.int .i64 b.lx)) (by dsimp only; omega) (.int .i64 b.hx)) (by dsimp only; omega) (.int .i64 b.ly)) (by dsimp only; omega) (.int .i64 b.hy))).trans P2.out.symm, (block_set (i := 3) (block_set (i := 2) (block_set (i := 1) (block_set (i := 0) G3.out (.int .i64 b.lx)) (.int .i64 b.hx)) (.int .i64 b.ly)) (.int .i64 b.hy)), fun _ => ⟨BOK.out, by rw [HBB.out, S4.out (by omega), XY.out]⟩⟩
      case measure => simp [Go.RowKit.intOf]; omega
    · have d0 : ((k : Int) == 0) = false := by simp; omega
      obtain ⟨hb0, hbj⟩ := HJ.out hk0
      have HB0 := Lib.hid hb0
      obtain ⟨jb, hjb⟩ : ∃ q, joinB b0 b = q := ⟨_, rfl⟩
      have JB := Lib.hid hjb
      have JOK : Hid (BxOk jb) := Lib.hid (by rw [← hjb]; exact join_ok hb0 BOK.out)
      have JJ : Hid (jb = joinL m (l.take (k + 1))) := Lib.hid (by rw [← hjb, S1.out hk0, ← hbj, HBB.out])
      clear hb0 hbj hjb
      go_wp2_with fail
      (with_reducible refine (spJoinBox_any b0 b _ HB0.out BOK.out JB.out).mono ?_)
      rintro z w7 ⟨rfl, hx7⟩
      have g3 := block_later hx7 R3.out
      have f7 := free_block g3
      have c7 := cell_block g3
      have G3 := Lib.hid g3
      clear g3 f3 c3 c10
      have hs7 := hx7.size
      have HNE := Lib.hid (own_ne (HO5.out.keep hx7) G3.out (by decide))
      go_wp2_with fail
      go_roundw
      case rel => exact ⟨k + 1, N + 4, ad5, c5, jb, by omega, by go_num, rfl, by have := hNN.out; omega, OK2.out, (own_set (g := w.heap.size + 2) (i := 3) (own_set (g := w.heap.size + 2) (i := 2) (own_set (g := w.heap.size + 2) (i := 1) (own_set (g := w.heap.size + 2) (i := 0) (HO5.out.keep hx7) (HNE.out) (.int .i64 jb.lx)) (HNE.out) (.int .i64 jb.hx)) (HNE.out) (.int .i64 jb.ly)) (HNE.out) (.int .i64 jb.hy)), (((((B5.out.trans (hx7.mono B5.out.size)).setCell (p := ⟨w.heap.size + 2, 0, none⟩) (by dsimp only; omega) (.int .i64 jb.lx)).setCell (p := ⟨w.heap.size + 2, 1, none⟩) (by dsimp only; omega) (.int .i64 jb.hx)).setCell (p := ⟨w.heap.size + 2, 2, none⟩) (by dsimp only; omega) (.int .i64 jb.ly)).setCell (p := ⟨w.heap.size + 2, 3, none⟩) (by dsimp only; omega) (.int .i64 jb.hy)), by simp only [World.size_setCell]; omega, (block_far (a := ⟨w.heap.size + 2, 3, none⟩) (block_far (a := ⟨w.heap.size + 2, 2, none⟩) (block_far (a := ⟨w.heap.size + 2, 1, none⟩) (block_far (a := ⟨w.heap.size + 2, 0, none⟩) (block_later hx7 R1.out) (by dsimp only; omega) (.int .i64 jb.lx)) (by dsimp only; omega) (.int .i64 jb.hx)) (by dsimp only; omega) (.int .i64 jb.ly)) (by dsimp only; omega) (.int .i64 jb.hy)), ((block_far (a := ⟨w.heap.size + 2, 3, none⟩) (block_far (a := ⟨w.heap.size + 2, 2, none⟩) (block_far (a := ⟨w.heap.size + 2, 1, none⟩) (block_far (a := ⟨w.heap.size + 2, 0, none⟩) (block_later hx7 R2.out) (by dsimp only; omega) (.int .i64 jb.lx)) (by dsimp only; omega) (.int .i64 jb.hx)) (by dsimp only; omega) (.int .i64 jb.ly)) (by dsimp only; omega) (.int .i64 jb.hy))).trans P2.out.symm, (block_set (i := 3) (block_set (i := 2) (block_set (i := 1) (block_set (i := 0) G3.out (.int .i64 jb.lx)) (.int .i64 jb.hx)) (.int .i64 jb.ly)) (.int .i64 jb.hy)), fun _ => ⟨JOK.out, JJ.out⟩⟩
      case measure => simp [Go.RowKit.intOf]; omega
end Go.Proofs.YtdmegkkifiahdaaGreat
/- Calling carried on the shape of a valid feature. -/
namespace Go.Proofs.YtdmegkkifiahdaaGreat
open Go.RowKit Go.Shelf
set_option linter.unusedVariables false
theorem mT_light (n : Nat) (x y : Int) (ad : Option Addr) (k c : Nat) (w : World) : (method (n + 1) 210 (.agg #[.int .i64 x, .int .i64 y, .slice ad k c]) "seamark/transport.carried").run Tryz.prog w = .ok (434, .agg #[.int .i64 x, .int .i64 y, .slice ad k c]) w := by kernel_rfl
theorem mT_area (n : Nat) (ad : Option Addr) (k c : Nat) (w : World) : (method (n + 1) 215 (.agg #[.slice ad k c]) "seamark/transport.carried").run Tryz.prog w = .ok (166, .agg #[.slice ad k c]) w := by kernel_rfl
theorem mT_disc (n : Nat) (x y r : Int) (w : World) : (method (n + 1) 205 (.agg #[.int .i64 x, .int .i64 y, .int .i64 r]) "seamark/transport.carried").run Tryz.prog w = .ok (431, .agg #[.int .i64 x, .int .i64 y, .int .i64 r]) w := by kernel_rfl
theorem cT_light (args : Array Value) (w : World) : (callFunc 434 args).run Tryz.prog w = .ok (.enter 434 args) w := enters_of Tryz.func434 (by kernel_rfl) rfl args w
theorem cT_area (args : Array Value) (w : World) : (callFunc 166 args).run Tryz.prog w = .ok (.enter 166 args) w := enters_of Tryz.func166 (by kernel_rfl) rfl args w
theorem cT_disc (args : Array Value) (w : World) : (callFunc 431 args).run Tryz.prog w = .ok (.enter 431 args) w := enters_of Tryz.func431 (by kernel_rfl) rfl args w
/-- What carried gives, and with makes of it. -/
def CarGive (m : Dat) (f : Feat) (aa : Option Addr) (na ca : Nat) (ab : Option Addr) (ns cs : Nat) (lo : Nat) (w : World) (e : Ending) (w' : World) : Prop :=
  ∃ (sv : Value) (u : Bool) (g : Feat) (a2 : Option Addr) (n2 c2 : Nat) (b2 : Option Addr) (m2 d2 : Nat), e = .returned (.tuple #[sv, .bool u]) ∧
    (∀ W, Calls Tryz.prog 230 #[featV f (.slice aa na ca) (.slice ab ns cs), sv] W fun e W' => e = .returned (featV g (.slice a2 n2 c2) (.slice b2 m2 d2)) ∧ Below W.heap.size W W') ∧
    (u = true → PartsSep lo w' g (.slice a2 n2 c2) (.slice b2 m2 d2)) ∧ (∀ s, carryF m f s = if u = true then some { g with sym := s } else none) ∧ Below w.heap.size w w'
theorem secs_in {n : Nat} {l : List Sec} (hn : l.length = n) (h : SecsOk n (secX l)) : ∀ i, i < l.length → SecIn (l.getD i noSec) := fun i hi => by
  have := (h.2 i (by omega)).1
  obtain ⟨h1, h2, _, _, h5, h6⟩ := this
  exact ⟨h1, h2, Int.le_trans (by decide) h5, h6⟩
theorem secsR_len {m : Dat} {l r : List Sec} {u : Bool} (h : secsR m l = (r, u)) : r.length ≤ l.length := by
  cases hb : l.all (okS m)
  · rw [secsR_no hb] at h
    cases h
    exact Nat.zero_le _
  · rw [secsR_yes hb] at h
    cases h
    exact out_len m l
theorem area_len {m : Dat} {l r : List Pt} {u : Bool} (h : areaD m l = if u = true then some r else none) (hu : u = true) : r.length ≤ 24 := by
  rw [if_pos hu] at h
  unfold areaD at h
  split at h
  · cases h
  · split at h
    · cases h
    · split at h
      · unfold rectB at h
        split at h
        · cases h
        · cases h
          show 4 ≤ 24
          decide
      · cases h
        omega
theorem shape_carried (m : Dat) (f : Feat) (aa : Option Addr) (na ca : Nat) (ab : Option Addr) (ns cs : Nat) (w : World) (hm : DatOk m) (hf : FeatOk f) (hp : PartsAt w f (.slice aa na ca) (.slice ab ns cs)) :
    ∃ T recv fn, shapeT f (.slice aa na ca) (.slice ab ns cs) = .iface T recv ∧ (∀ n w', (method (n + 1) T recv "seamark/transport.carried").run Tryz.prog w' = .ok (fn, recv) w') ∧ (∀ args w', (callFunc fn args).run Tryz.prog w' = .ok (.enter fn args) w') ∧
      ∀ w', Below w.heap.size w w' → Calls Tryz.prog fn #[recv, carV m] w' (CarGive m f aa na ca ab ns cs w.heap.size w') := by
  obtain ⟨⟨_, _, _, hr0, hr1⟩, hk⟩ := hf
  have hna : na = f.area.length := by
    obtain ⟨a, c, b, d, e1, _⟩ := hp.form
    cases e1
    rfl
  have hns : ns = f.secs.length := by
    obtain ⟨a, c, b, d, _, e2⟩ := hp.form
    cases e2
    rfl
  unfold FormR at hk
  unfold shapeT
  by_cases h3 : f.kind = 3 ∨ f.kind = 6
  · rw [if_pos h3]
    have hpo : PolyOk f.area.length (ptX f.area) := by
      rw [if_neg (by unfold DiscK; omega)] at hk
      split at hk
      · exact hk.1
      · omega
    refine ⟨_, _, _, rfl, fun n w' => mT_area n _ _ _ w', fun args w' => cT_area args w', fun w' hb => ?_⟩
    have hv : ∀ p ∈ f.area, Vld p.1 p.2 := fun p hpm => by
      obtain ⟨i, hi, rfl⟩ := mem_getD (0, 0) hpm
      exact hpo.2.2.1 i hi
    have hl := hpo.1
    have hl2 := hpo.2.1
    refine (trarea_any m f.area aa na ca w' hm (hp.later hb).1 hna.symm (by omega) (by omega) hv).mono ?_
    rintro e w'' ⟨ad, N, c, r, u, hN, rfl, hpts, hA, hbx⟩
    refine ⟨_, u, { f with area := r }, ad, N, c, ab, ns, cs, rfl, fun W => ?_, fun hu W hk => ⟨?_, (PartsSep.low hp (hb.trans (hbx.mono hb.size)) W hk).2⟩, fun s => ?_, hbx⟩
    · exact trwith_area f ad N c aa ab na ca ns cs W
    · have h1 := (hpts hu).sep hk
      exact h1.pts (by rw [hN]; have := area_len hA hu; omega)
    · unfold carryF
      rw [if_pos h3, hA]
      cases u <;> rfl
  rw [if_neg h3]
  by_cases h4 : f.kind = 4
  · rw [if_pos h4]
    rw [if_neg (by unfold DiscK; omega), if_neg (by omega)] at hk
    obtain ⟨_, hv, hs, _⟩ := hk
    refine ⟨_, _, _, rfl, fun n w' => mT_light n _ _ _ _ _ w', fun args w' => cT_light args w', fun w' hb => ?_⟩
    obtain ⟨⟨⟨px, py⟩, u⟩, hpl⟩ : ∃ q, placeD m f.x f.y = q := ⟨_, rfl⟩
    obtain ⟨⟨r, t⟩, hsr⟩ : ∃ q, secsR m f.secs = q := ⟨_, rfl⟩
    refine (trlight_any m f.x f.y f.secs ab ns cs w' hm hv (hp.later hb).2 (secs_in rfl hs) hs.1 hpl hsr).mono ?_
    rintro e w'' ⟨ad, N, c, hN, rfl, hsec, hbx⟩
    refine ⟨_, u && t, { f with x := px, y := py, secs := r }, aa, na, ca, ad, N, c, rfl, fun W => ?_, fun hu W hk => ⟨(PartsSep.low hp (hb.trans (hbx.mono hb.size)) W hk).1, (hsec.sep hk).secs (by have := secsR_len hsr; have := hs.1; omega)⟩, fun s => ?_, hbx⟩
    · exact trwith_light f px py ad N c aa ab na ca ns cs W
    · unfold carryF
      rw [if_neg h3]
      rcases placeD_cases hpl with ⟨k1, k2, k3⟩ | ⟨k1, k2, k3⟩
      · rw [if_neg (by simpa using k1), if_pos h4, k3, ← k2]
        unfold secsR at hsr
        split at hsr
        · next hl => cases hsr; rw [hl]; rfl
        · next hl => cases hsr; rw [hl]; rfl
      · rw [if_pos k1, k3]
        rfl
  · rw [if_neg h4]
    have hd : DiscK f.kind := by
      split at hk
      · assumption
      · split at hk
        · omega
        · exact absurd hk.1 h4
    rw [if_pos hd] at hk
    refine ⟨_, _, _, rfl, fun n w' => mT_disc n _ _ _ w', fun args w' => cT_disc args w', fun w' hb => ?_⟩
    obtain ⟨⟨⟨px, py⟩, u⟩, hpl⟩ : ∃ q, placeD m f.x f.y = q := ⟨_, rfl⟩
    refine (trdisc_any m f.x f.y f.rad w' hm hk.1 hr0 hr1 hpl rfl).mono ?_
    rintro e w'' ⟨rfl, hbx⟩
    refine ⟨_, u, { f with x := px, y := py, rad := grownD m f.rad + slackD m }, aa, na, ca, ab, ns, cs, rfl, fun W => ?_, fun hu W hk => PartsSep.low hp (hb.trans (hbx.mono hb.size)) W hk, fun s => ?_, hbx⟩
    · exact trwith_disc f px py (grownD m f.rad + slackD m) aa ab na ca ns cs W
    · unfold carryF
      rw [if_neg h3]
      rcases placeD_cases hpl with ⟨k1, k2, k3⟩ | ⟨k1, k2, k3⟩
      · rw [if_neg (by simpa using k1), if_neg h4, k3, ← k2]
        rfl
      · rw [if_pos k1, k3]
        rfl
end Go.Proofs.YtdmegkkifiahdaaGreat
