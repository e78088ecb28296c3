/- The walk of over$1: the sums for two places, kept in a map. -/
import Derived.Test.YtcpnkhiillgffaaReachV
namespace Go.Proofs.Ytcpnkhiillgffaa
open Go.RowKit
attribute [local go_sem] bqOp bqAll bqUpon
attribute [local irreducible] wpQuiet wpBQ
set_option linter.unusedVariables false
theorem und_ints : Try.prog.underlying 28 = some (.slice 3) := by kernel_rfl
/-- How many of the first k pieces have the time f + j - 1 and are heard. -/
def histF (X A : Nat → Nat → Int) (f : Int) (p q k j : Nat) : Int := if j = 0 then 0 else cntN (btwB X A p q (f + (j : Int) - 1) (f + (j : Int))) k
theorem histF_bd (X A : Nat → Nat → Int) (f : Int) (p q k j : Nat) : 0 ≤ histF X A f p q k j ∧ histF X A f p q k j ≤ (k : Int) := by
  have := cntN_bd (btwB X A p q (f + (j : Int) - 1) (f + (j : Int))) k
  unfold histF
  split <;> omega
theorem histF_skip (X A : Nat → Nat → Int) (f u : Int) (p q k j : Nat) (hj : (j : Int) ≤ u - f + 1) (h : ¬ (f ≤ A k 0 ∧ A k 0 ≤ u) ∨ (hrB X (A k 1) (A k 2) (A k 3) p && hrB X (A k 1) (A k 2) (A k 3) q) = false) : histF X A f p q (k + 1) j = histF X A f p q k j := by
  unfold histF
  split
  · rfl
  · rename_i hj0
    have : btwB X A p q (f + (j : Int) - 1) (f + (j : Int)) k = false := by
      unfold btwB
      rcases h with h | h
      · rw [decide_eq_false (by omega)]; rfl
      · rw [h]; simp
    exact cntN_no this
theorem histF_hit (X A : Nat → Nat → Int) (f : Int) (p q k j : Nat) (h1 : f ≤ A k 0) (h : (hrB X (A k 1) (A k 2) (A k 3) p && hrB X (A k 1) (A k 2) (A k 3) q) = true) : histF X A f p q (k + 1) j = histF X A f p q k j + if (j : Int) = A k 0 - f + 1 then 1 else 0 := by
  unfold histF
  split
  · rw [if_neg (by omega)]; rfl
  · rename_i hj0
    by_cases e : (j : Int) = A k 0 - f + 1
    · rw [if_pos e]
      exact cntN_yes (by unfold btwB; rw [h, decide_eq_true (by omega)]; rfl)
    · rw [if_neg e, Int.add_zero]
      exact cntN_no (by unfold btwB; rw [decide_eq_false (by omega)]; rfl)
theorem sumF_zero (X A : Nat → Nat → Int) (na : Nat) (f : Int) (p q : Int) : sumF X A na f p q 0 = 0 := by
  unfold sumF
  induction na with
  | zero => rfl
  | succ n ih =>
    unfold cntN
    rw [ih]
    unfold btwB
    rw [decide_eq_false (by omega)]
    rfl
theorem sumF_step (X A : Nat → Nat → Int) (na : Nat) (f : Int) (p q j : Nat) : sumF X A na f (p : Int) (q : Int) (j + 1) = histF X A f p q na (j + 1) + sumF X A na f (p : Int) (q : Int) j := by
  unfold sumF histF
  rw [if_neg (by omega), btw_split X A _ _ f (f + (j : Int)) (f + ((j + 1 : Nat) : Int)) (by omega) (by omega) na, Int.toNat_natCast, Int.toNat_natCast, show f + ((j + 1 : Nat) : Int) - 1 = f + (j : Int) by omega]
  omega
/-- The row while the sums are made: below t sums, from t on the numbers. -/
def mixF (X A : Nat → Nat → Int) (na : Nat) (f : Int) (p q t j : Nat) : Int := if j < t then sumF X A na f (p : Int) (q : Int) j else histF X A f p q na j
theorem mixF_one (X A : Nat → Nat → Int) (na : Nat) (f : Int) (p q j : Nat) : mixF X A na f p q 1 j = histF X A f p q na j := by
  unfold mixF
  by_cases h : j < 1
  · obtain rfl : j = 0 := by omega
    rw [if_pos h, sumF_zero]; rfl
  · rw [if_neg h]
theorem mixF_succ (X A : Nat → Nat → Int) (na : Nat) (f : Int) (p q t j : Nat) : mixF X A na f p q (t + 1) j = if j = t then sumF X A na f (p : Int) (q : Int) t else mixF X A na f p q t j := by
  unfold mixF
  by_cases h : j = t
  · subst h; rw [if_pos (by omega), if_pos rfl]
  · by_cases h2 : j < t
    · rw [if_pos (by omega), if_neg h, if_pos h2]
    · rw [if_neg (by omega), if_neg h, if_neg h2]
/-- Block g is a row of integers whose first n are F. -/
def RowC (w : World) (g n : Nat) (F : Nat → Int) : Prop := ∃ cur : Array Value, w.heap[g]? = some (.cells cur 3 (0, 0)) ∧ n ≤ cur.size ∧ ∀ j, j < n → cur[j]? = some (.int .i64 (F j))
theorem RowC.cell {w : World} {g n : Nat} {F : Nat → Int} (h : RowC w g n F) {j : Nat} (hj : j < n) : w.cell? ⟨g, j, none⟩ = some (.int .i64 (F j)) ∧ w.frozen? ⟨g, j, none⟩ = false := by
  obtain ⟨cur, h1, _, h3⟩ := h
  exact ⟨(cell_block h1 j).trans (h3 j hj), free_block h1 j⟩
theorem RowC.later {w w' : World} {g n : Nat} {F : Nat → Int} (h : RowC w g n F) (hb : Below w.heap.size w w') : RowC w' g n F := by
  obtain ⟨cur, h1, h2, h3⟩ := h
  exact ⟨cur, block_later hb h1, h2, h3⟩
theorem RowC.set {w : World} {g n : Nat} {F G : Nat → Int} (h : RowC w g n F) {j : Nat} (hj : j < n) {v : Int} (hG : ∀ i, i < n → G i = if i = j then v else F i) : RowC (w.setCell ⟨g, j, none⟩ (.int .i64 v)) g n G := by
  obtain ⟨cur, h1, h2, h3⟩ := h
  refine ⟨_, block_set h1 _, by simpa using h2, fun i hi => ?_⟩
  rw [hG i hi]
  by_cases e : i = j
  · subst e; rw [if_pos rfl]; simp [show i < cur.size by omega]
  · rw [if_neg e, Array.getElem?_setIfInBounds, if_neg (fun h => e h.symm)]; exact h3 i hi
theorem RowC.eqv {w : World} {g n : Nat} {F G : Nat → Int} (h : RowC w g n F) (hG : ∀ i, i < n → G i = F i) : RowC w g n G := by
  obtain ⟨cur, h1, h2, h3⟩ := h
  exact ⟨cur, h1, h2, fun i hi => by rw [hG i hi]; exact h3 i hi⟩
theorem madeRow {w : World} {base n : Nat} {g c : Nat} (h : w.ownsRow base 3 1 (.slice (some ⟨g, 0, none⟩) n c) n (madeCells (Value.int .i64 0).cells (n * 1)).toList) : RowC w g n (fun _ => 0) := by
  obtain ⟨hl, h⟩ := h
  have hget : ∀ j, j < n → (madeCells (Value.int .i64 0).cells (n * 1)).toList[j]? = some (.int .i64 0) := fun j hj => by
    unfold madeCells
    simp [Value.cells, hj, Nat.mod_one]
  rcases h with ⟨hv, _⟩ | ⟨g', cap, cur, hv, _, hg, _, _, hcs, hx⟩
  · cases hv
  · cases hv
    simp only [Nat.mul_one] at hx hget hl
    refine ⟨cur, hg, ?_, fun j hj => ?_⟩
    · have := congrArg List.length hx
      rw [List.length_take] at this
      simp at this hl
      omega
    · have : (cur.toList.take n)[j]? = (madeCells (Value.int .i64 0).cells n).toList[j]? := by rw [hx]
      rw [List.getElem?_take, if_pos hj, Array.getElem?_toList] at this
      rw [this]; exact hget j hj
set_option maxRecDepth 20000 in
set_option maxHeartbeats 4000000 in
theorem hOver1_any (np c ne c2 na c4 b bs bu bf ba bn : Nat) (ad ad2 ad4 : Option Addr) (t4 t5 : TypeId) (X A : Nat → Nat → Int) (f u : Int) (p q x y n : Nat) (Av : Nat → Prop) (w : World) (hn : u - f + 2 = (n : Int))
    (hX : Rows 2 w (.slice ad np c) np X) (hA : Rows 4 w (.slice ad4 na c4) na A) (hn1 : np ≤ 64) (ha : AirsOk na A) (hv : ∀ i, i < np → Vld (X i 0) (X i 1)) (f0 : 0 ≤ f) (fu : f ≤ u) (u0 : u ≤ 10000000) (uf : u - f ≤ 400)
    (h1 : w.heap[bs]? = some (.cells #[.map (some b)] 112 (0, 0))) (h2 : w.heap[bu]? = some (.cells #[.int .i64 u] 3 (0, 0))) (h3 : w.heap[bf]? = some (.cells #[.int .i64 f] 3 (0, 0)))
    (h4 : w.heap[ba]? = some (.cells #[.slice ad4 na c4] t4 (0, 0))) (h5 : w.heap[bn]? = some (.cells #[.slice ad np c, .slice ad2 ne c2] t5 (0, 0)))
    (hS : Sums w Av b n (sumF X A na f)) (hhi : ∀ g, Av g → g < w.heap.size) (hp : p < np) (hq : q < np) (hx : (x : Int) ≤ u - f + 1) (hy : (y : Int) ≤ u - f + 1) {r : Int} (hr : cntN (btwB X A p q (f + (x : Int)) (f + ((max x y : Nat) : Int))) na = r) :
    Calls Try.prog 85 #[.int .i64 (p : Int), .int .i64 (q : Int), .int .i64 (x : Int), .int .i64 (y : Int), .pointer (some ⟨bs, 0, none⟩), .pointer (some ⟨bu, 0, none⟩), .pointer (some ⟨bf, 0, none⟩), .pointer (some ⟨ba, 0, none⟩), .pointer (some ⟨bn, 0, none⟩)] w fun z w' =>
      z = .returned (.int .i64 r) ∧ Bes b w w' ∧ Sums w' Av b n (sumF X A na f) := by
  have q1 : w.cell? ⟨bs, 0, none⟩ = some (.map (some b)) := cell_block h1 0
  have q2 : w.cell? ⟨bu, 0, none⟩ = some (.int .i64 u) := cell_block h2 0
  have q3 : w.cell? ⟨bf, 0, none⟩ = some (.int .i64 f) := cell_block h3 0
  have q4 : w.cell? ⟨ba, 0, none⟩ = some (.slice ad4 na c4) := cell_block h4 0
  have HR := Lib.hid hr
  clear hr
  go_enter Try.func85, Try.ntmps85
  go_wp2_with (at_lookup; refine wpList_lookup_memo _ rfl _ _ rfl b _ rfl hS (p : Int) (q : Int) rfl ?_ ?_)
  · intro v hv'
    obtain ⟨g, cc, cur, rfl, -, hgb, hgc, hrow⟩ := hv'
    have r1 := hrow x (by omega)
    have r2 := hrow (max x y) (by omega)
    go_wp2_with fail
    have hfin := heard_sum X A na f (p : Int) (q : Int) x y
    rw [Int.toNat_natCast, Int.toNat_natCast, HR.out] at hfin
    have HF := Lib.hid hfin
    clear hfin
    have b1 : 0 ≤ sumF X A na f p q x ∧ sumF X A na f p q x ≤ (na : Int) := cntN_bd _ na
    have b2 : 0 ≤ sumF X A na f p q (max x y) ∧ sumF X A na f p q (max x y) ≤ (na : Int) := cntN_bd _ na
    obtain ⟨v1, e1⟩ : ∃ v1, sumF X A na f p q x = v1 := ⟨_, rfl⟩
    obtain ⟨v2, e2⟩ : ∃ v2, sumF X A na f p q (max x y) = v2 := ⟨_, rfl⟩
    rw [e1] at r1 b1 HF
    rw [e2] at r2 b2 HF
    have hna := ha.1
    have j1 : IntKind.i64.wrap (v2 - v1) = v2 - v1 := IntWalk.i64_in _ (by omega)
    have jx2 : x < n := by omega
    have jy2 : y < n := by omega
    have jx : (x : Int) < (n : Int) := by omega
    have jy : (y : Int) < (n : Int) := by omega
    have s1 := fun d os => (cell_block (block_later (below_regrown w d os) hgc) x).trans r1
    have s2 := fun d os => (cell_block (block_later (below_regrown w d os) hgc) (max x y)).trans r2
    have v21 : y ≤ x → v2 = v1 := fun h => by rw [← e1, ← e2, show max x y = x by omega]
    clear hrow r1 r2 e1 e2 b1 b2
    rcases Nat.lt_or_ge x y with hxy | hxy
    · have em : max x y = y := by omega
      rw [em] at s2
      have hlt : (x : Int) < (y : Int) := by omega
      have hle : ¬ (y : Int) < (x : Int) := by omega
      have hle2 : (x : Int) ≤ (y : Int) := by omega
      (refine wp_region_quiet_below (by kernel_rfl) (by kernel_rfl) ?_; (repeat (refine wpQuiet_step (fun K hK => ?_); replace hK := Lib.hid hK; go_simp; first | (refine hK.out _ ?_; clear hK K) | (apply Exists.intro; refine ⟨fun _ => ?_, hK.out _ ?_⟩; (fail); clear hK K))); refine wpQuiet_nil ?_)
      intro wz hrz
      have hbz := regrown_below hrz
      clear hrz s1 s2
      go_wp2_with fail
      go_returns
      exact ⟨ret_int HF.out, Bes.of_below hbz, hS.later hbz⟩
    · have em : max x y = x := by omega
      obtain rfl := v21 hxy
      rw [em] at s2
      have hle : ¬ (x : Int) < (y : Int) := by omega
      have hle2 : (y : Int) ≤ (x : Int) := by omega
      (refine wp_region_quiet_below (by kernel_rfl) (by kernel_rfl) ?_; (repeat (refine wpQuiet_step (fun K hK => ?_); replace hK := Lib.hid hK; go_simp; first | (refine hK.out _ ?_; clear hK K) | (apply Exists.intro; refine ⟨fun _ => ?_, hK.out _ ?_⟩; (fail); clear hK K))); refine wpQuiet_nil ?_)
      intro wz hrz
      have hbz := regrown_below hrz
      clear hrz s1 s2
      go_wp2_with fail
      go_returns
      exact ⟨ret_int (by rw [← HF.out, Int.sub_self]; rfl), Bes.of_below hbz, hS.later hbz⟩
  · intro hno
    have hn4 : (n : Int) ≤ 402 := by omega
    have w1 : IntKind.i64.wrap (u - f) = u - f := IntWalk.i64_in _ (by omega)
    have w2 : IntKind.i64.wrap (u - f + 2) = (n : Int) := by rw [IntWalk.i64_in _ (by omega)]; exact hn
    obtain ⟨i0, hi0, hz0, hz1, hz2⟩ := info_parts info_int
    obtain ⟨wm, hmake, hown, hgrow⟩ := run_makeSlice_full w w.heap.size 28 3 i0 _ 1 und_ints hi0 hz0 hz1 .i64 .i64 n (by omega) (by rw [hz2]; omega) (by unfold maxLen; omega) (Nat.le_refl _)
    have hbm : Below w.heap.size w wm := ⟨hgrow.os, hgrow.tape, hgrow.output, hgrow.size, fun k hk => hgrow.block k hk (by simp)⟩
    have m4 := cell_later hbm q4
    have HROW := Lib.hid (madeRow hown)
    have HBM := Lib.hid hbm
    have HNO := Lib.hid hno
    have HS := Lib.hid hS
    have HX := Lib.hid hX
    have HA := Lib.hid hA
    have VX := Lib.hid hv
    have VA := Lib.hid ha
    have na4 : na ≤ 400 := ha.1
    have H1 := Lib.hid h1
    have H2 := Lib.hid h2
    have H3 := Lib.hid h3
    have H4 := Lib.hid h4
    have H5 := Lib.hid h5
    have HN := Lib.hid hn
    have L1 := lt_block h1
    have L2 := lt_block h2
    have L3 := lt_block h3
    have L4 := lt_block h4
    have L5 := lt_block h5
    clear hown hgrow hbm hno hS hX hA hv ha h1 h2 h3 h4 h5 hn q1
    go_wp2_with fail
    clear hmake m4 w1 w2 q2 q3 q4
    go_loopw [36] (fun i wr => ∃ k : Nat, k ≤ na ∧ i = .int .i64 k ∧ Below w.heap.size w wr ∧ RowC wr w.heap.size n (histF X A f p q k)) (fun i _ => na - (intOf i).toNat)
    case atStart => exact ⟨0, by omega, rfl, HBM.out, HROW.out.eqv (fun j _ => by unfold histF cntN; split <;> rfl)⟩
    case round =>
      obtain ⟨k, hk, rfl, hbr, hrow⟩ := hrel
      have ROW := Lib.hid hrow
      clear hrow
      obtain ⟨wo, rfl⟩ : ∃ wo : World, wo = wr := ⟨_, rfl⟩
      by_cases hlt : k < na
      rotate_left
      · obtain rfl : k = na := by omega
        go_wp2_with fail
        go_loopw [18] (fun i ws => ∃ t : Nat, 1 ≤ t ∧ t ≤ n ∧ i = .int .i64 t ∧ Below w.heap.size w ws ∧ RowC ws w.heap.size n (mixF X A k f p q t)) (fun i _ => n - (intOf i).toNat)
        case atStart => exact ⟨1, by omega, by have := HN.out; omega, rfl, hbr, ROW.out.eqv (fun j _ => mixF_one X A k f p q j)⟩
        case round =>
          obtain ⟨t, ht1, ht2, rfl, hbs, hrs⟩ := hrel
          have ROS := Lib.hid hrs
          clear hrs
          by_cases htt : t < n
          · obtain ⟨t, rfl⟩ : ∃ t' : Nat, t = t' + 1 := ⟨t - 1, by omega⟩
            have k1 := ROS.out.cell (j := t + 1) htt
            have k2 := ROS.out.cell (j := t) (by omega)
            have n1 := histF_bd X A f p q k (t + 1)
            have n2 : 0 ≤ sumF X A k f (p : Int) (q : Int) t ∧ sumF X A k f (p : Int) (q : Int) t ≤ (k : Int) := cntN_bd _ k
            have e1 : mixF X A k f p q (t + 1) (t + 1) = histF X A f p q k (t + 1) := if_neg (by omega)
            have e2 : mixF X A k f p q (t + 1) t = sumF X A k f (p : Int) (q : Int) t := if_pos (by omega)
            have ST := Lib.hid (sumF_step X A k f p q t)
            rw [e1] at k1
            rw [e2] at k2
            clear e1 e2
            generalize histF X A f p q k (t + 1) = z1 at k1 n1 ST
            obtain ⟨z2, g2⟩ : ∃ z2, sumF X A k f (p : Int) (q : Int) t = z2 := ⟨_, rfl⟩
            rw [g2] at k2 n2 ST
            clear g2
            obtain ⟨k11, k12⟩ := k1
            obtain ⟨k21, k22⟩ := k2
            have i1 : IntKind.i64.wrap (((t + 1 : Nat) : Int) - 1) = (t : Int) := by rw [IntWalk.i64_in _ (by omega)]; omega
            have i2 : IntKind.i64.wrap (z1 + z2) = z1 + z2 := IntWalk.i64_in _ (by omega)
            go_wp2_with fail
            go_region
            all_goals
              go_wp2_with fail
              go_roundw
              case rel => exact ⟨t + 2, by omega, by omega, by go_num, (hbs.setCell (p := ⟨w.heap.size, t + 1, none⟩) (Nat.le_refl _) _).drew, ROS.out.set htt (fun j hj => by rw [mixF_succ, ← ST.out])⟩
              case measure => simp [intOf]; omega
          · obtain rfl : t = n := by omega
            obtain ⟨cur, hgc, -, hrow⟩ := ROS.out
            have hS5 := HS.out.later hbs
            have q1 := cell_later hbs (cell_block H1.out 0)
            have hno5 : MemoNot wr b p q := fun es clock hes => HNO.out es clock ((hbs.block b HS.out.lt).symm.trans hes)
            have HG : RowB wr Av b t (sumF X A k f (p : Int) (q : Int)) (.slice (some ⟨w.heap.size, 0, none⟩) t t) := ⟨w.heap.size, t, cur, rfl, fun h => Nat.lt_irrefl _ (hhi _ h), by have := HS.out.lt; omega, hgc, fun j hj => by rw [hrow j hj]; unfold mixF; rw [if_pos hj]⟩
            have HG := Lib.hid HG
            have HROW := Lib.hid hrow
            clear hrow
            go_wp2_with (at_mapUpdate; refine wpList_update_memo _ rfl _ _ _ rfl b _ rfl hS5 (p : Int) (q : Int) rfl hno5 _ rfl HG.out ?_)
            intro w6 hm6 hg6
            have hgc := hg6.block _ (lt_block hgc) (fun e => by have := HS.out.lt; have := Option.some.inj e; omega) |>.trans hgc
            have HBES := Lib.hid ((Bes.of_below hbs).trans hg6)
            have HSUM := Lib.hid (Sums.stored hm6 hg6)
            have r1 := (HROW.out x (by have := HN.out; omega)).trans (congrArg some (congrArg (Value.int IntKind.i64) (show mixF X A k f p q t x = sumF X A k f (p : Int) (q : Int) x from if_pos (by have := HN.out; omega))))
            have r2 := (HROW.out (max x y) (by have := HN.out; omega)).trans (congrArg some (congrArg (Value.int IntKind.i64) (show mixF X A k f p q t (max x y) = sumF X A k f (p : Int) (q : Int) (max x y) from if_pos (by have := HN.out; omega))))
            clear hm6 hg6 hS5 q1 hno5 HG
            go_wp2_with fail
            have hfin := heard_sum X A k f (p : Int) (q : Int) x y
            rw [Int.toNat_natCast, Int.toNat_natCast, HR.out] at hfin
            have HF := Lib.hid hfin
            clear hfin
            have b1 : 0 ≤ sumF X A k f p q x ∧ sumF X A k f p q x ≤ (k : Int) := cntN_bd _ k
            have b2 : 0 ≤ sumF X A k f p q (max x y) ∧ sumF X A k f p q (max x y) ≤ (k : Int) := cntN_bd _ k
            have hrow := True.intro
            have ha := VA.out
            have hn := HN.out
            obtain ⟨v1, e1⟩ : ∃ v1, sumF X A k f p q x = v1 := ⟨_, rfl⟩
            obtain ⟨v2, e2⟩ : ∃ v2, sumF X A k f p q (max x y) = v2 := ⟨_, rfl⟩
            rw [e1] at r1 b1 HF
            rw [e2] at r2 b2 HF
            have hna := ha.1
            have j1 : IntKind.i64.wrap (v2 - v1) = v2 - v1 := IntWalk.i64_in _ (by omega)
            have jx2 : x < t := by omega
            have jy2 : y < t := by omega
            have jx : (x : Int) < (t : Int) := by omega
            have jy : (y : Int) < (t : Int) := by omega
            have s1 := fun d os => (cell_block (block_later (below_regrown w6 d os) hgc) x).trans r1
            have s2 := fun d os => (cell_block (block_later (below_regrown w6 d os) hgc) (max x y)).trans r2
            have v21 : y ≤ x → v2 = v1 := fun h => by rw [← e1, ← e2, show max x y = x by omega]
            clear hrow r1 r2 e1 e2 b1 b2
            rcases Nat.lt_or_ge x y with hxy | hxy
            · have em : max x y = y := by omega
              rw [em] at s2
              have hlt : (x : Int) < (y : Int) := by omega
              have hle : ¬ (y : Int) < (x : Int) := by omega
              have hle2 : (x : Int) ≤ (y : Int) := by omega
              (refine wp_region_quiet_below (by kernel_rfl) (by kernel_rfl) ?_; (repeat (refine wpQuiet_step (fun K hK => ?_); replace hK := Lib.hid hK; go_simp; first | (refine hK.out _ ?_; clear hK K) | (apply Exists.intro; refine ⟨fun _ => ?_, hK.out _ ?_⟩; (fail); clear hK K))); refine wpQuiet_nil ?_)
              intro wz hrz
              have hbz := regrown_below hrz
              clear hrz s1 s2
              go_wp2_with fail
              go_returns
              exact ⟨ret_int HF.out, HBES.out.trans (Bes.of_below hbz), HSUM.out.later hbz⟩
            · have em : max x y = x := by omega
              obtain rfl := v21 hxy
              rw [em] at s2
              have hle : ¬ (x : Int) < (y : Int) := by omega
              have hle2 : (y : Int) ≤ (x : Int) := by omega
              (refine wp_region_quiet_below (by kernel_rfl) (by kernel_rfl) ?_; (repeat (refine wpQuiet_step (fun K hK => ?_); replace hK := Lib.hid hK; go_simp; first | (refine hK.out _ ?_; clear hK K) | (apply Exists.intro; refine ⟨fun _ => ?_, hK.out _ ?_⟩; (fail); clear hK K))); refine wpQuiet_nil ?_)
              intro wz hrz
              have hbz := regrown_below hrz
              clear hrz s1 s2
              go_wp2_with fail
              go_returns
              exact ⟨ret_int (by rw [← HF.out, Int.sub_self]; rfl), HBES.out.trans (Bes.of_below hbz), HSUM.out.later hbz⟩
      obtain ⟨g, o, rfl, hc⟩ := HA.out.row hlt
      have C0 := Lib.hid (cell_later hbr (hc 0 (by omega)))
      have C1 := Lib.hid (cell_later hbr (hc 1 (by omega)))
      have C2 := Lib.hid (cell_later hbr (hc 2 (by omega)))
      have C3 := Lib.hid (cell_later hbr (hc 3 (by omega)))
      clear hc
      have c0 := C0.out
      have c1 := C1.out
      have c2' := C2.out
      have c3 := C3.out
      simp only [Nat.add_zero] at c0
      obtain ⟨va, r0, r1, t0, t1⟩ := VA.out.2 k hlt
      have VAk := Lib.hid va
      clear va
      have q2 := cell_later hbr (cell_block H2.out 0)
      have q3 := cell_later hbr (cell_block H3.out 0)
      have ba1 := fun (o : Obj) => (Below.refl wo.heap.size wo).alloc (Nat.le_refl _) o
      have q2a := fun o => cell_later (ba1 o) q2
      have q3a := fun o => cell_later (ba1 o) q3
      have done : ∀ w3, Below wo.heap.size wo w3 → (¬ (f ≤ A k 0 ∧ A k 0 ≤ u) ∨ (hrB X (A k 1) (A k 2) (A k 3) p && hrB X (A k 1) (A k 2) (A k 3) q) = false) → Below w.heap.size w w3 ∧ RowC w3 w.heap.size n (histF X A f p q (k + 1)) := fun w3 h3 h => ⟨below_step hbr h3, (ROW.out.later h3).eqv (fun j hj => histF_skip X A f u p q k j (by have := HN.out; omega) h)⟩
      have DONE := Lib.hid done
      clear done
      by_cases h1 : f ≤ A k 0
      rotate_left
      · have d1 : decide (f ≤ A k 0) = false := by simp; omega
        go_wp2_with fail
        go_roundw
        case rel => exact ⟨k + 1, by omega, by go_num, DONE.out _ (ba1 _) (.inl (fun h => h1 h.1))⟩
        case measure => simp [intOf]; omega
      by_cases h2 : A k 0 ≤ u
      rotate_left
      · have d2 : decide (A k 0 ≤ u) = false := by simp; omega
        go_wp2_with fail
        go_roundw
        case rel => exact ⟨k + 1, by omega, by go_num, DONE.out _ (ba1 _) (.inl (fun h => h2 h.2))⟩
        case measure => simp [intOf]; omega
      obtain ⟨v, hv⟩ : ∃ v, (hrB X (A k 1) (A k 2) (A k 3) p && hrB X (A k 1) (A k 2) (A k 3) q) = v := ⟨_, rfl⟩
      have CF := Lib.hid (fun w' hb => hhears_any np c ne c2 ad ad2 X (A k 0) (A k 1) (A k 2) (A k 3) p q w' (HX.out.later (below_step hbr hb)) (by omega) hp hq (VX.out p hp) (VX.out q hq) ⟨VAk.out, r0, r1, t0, t1⟩ hv)
      have HVV := Lib.hid hv
      clear hv
      have q6 := fun (o : Obj) => cell_block (block_alloc (o' := o) (block_later hbr H5.out))
      go_wp2_with fail
      refine calls_named fun W hW => ?_
      obtain ⟨p1, hb1⟩ := box1 hW
      clear hW
      (with_reducible refine (CF.out W hb1).mono ?_)
      rintro e w3 ⟨rfl, hb3⟩
      have hB3 := below_step hb1 hb3
      cases v
      · go_wp2_with fail
        go_roundw
        case rel => exact ⟨k + 1, by omega, by go_num, DONE.out _ hB3 (.inr HVV.out)⟩
        case measure => simp [intOf]; omega
      · obtain ⟨j0, hj0⟩ : ∃ j0 : Nat, A k 0 - f + 1 = (j0 : Int) := ⟨(A k 0 - f + 1).toNat, by omega⟩
        have jn : j0 < n := by have := HN.out; omega
        have hn63 : n ≤ 402 := by omega
        have bx0 := cell_block (block_later hb3 p1) 0
        have q3b := cell_later hB3 q3
        have R3 := Lib.hid (ROW.out.later hB3)
        obtain ⟨z0, hz⟩ : ∃ z0, histF X A f p q k j0 = z0 := ⟨_, rfl⟩
        have zb := histF_bd X A f p q k j0
        have k3 := R3.out.cell jn
        rw [hz] at zb k3
        obtain ⟨k31, k32⟩ := k3
        have i0 : IntKind.i64.wrap (A k 0 - f) = A k 0 - f := IntWalk.i64_in _ (by omega)
        have i1 : IntKind.i64.wrap (A k 0 - f + 1) = (j0 : Int) := by rw [IntWalk.i64_in _ (by omega)]; exact hj0
        have i2 : IntKind.i64.wrap (z0 + 1) = z0 + 1 := IntWalk.i64_in _ (by omega)
        have FIN := Lib.hid (show RowC (w3.setCell ⟨w.heap.size, j0, none⟩ (.int .i64 (z0 + 1))) w.heap.size n (histF X A f p q (k + 1)) from R3.out.set jn (fun i hi => by
          rw [histF_hit X A f p q k i h1 HVV.out]
          by_cases e : i = j0
          · subst e; rw [if_pos rfl, if_pos (by omega), hz]
          · rw [if_neg e, if_neg (by omega), Int.add_zero]))
        have HJ := Lib.hid hj0
        have HZ := Lib.hid hz
        clear hj0 hz p1 q2 q3 q2a q3a q6 c0 c1 c2' c3
        go_wp2_with fail
        go_roundw
        case rel => exact ⟨k + 1, by omega, by go_num, (below_step hbr hB3).setCell (p := ⟨w.heap.size, j0, none⟩) (Nat.le_refl _) _, FIN.out⟩
        case measure => simp [intOf]; omega
end Go.Proofs.Ytcpnkhiillgffaa
