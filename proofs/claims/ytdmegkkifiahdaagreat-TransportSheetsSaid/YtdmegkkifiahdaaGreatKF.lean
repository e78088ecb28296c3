/- TrA, TrB, TrC, TrE, DatE, OwnP, Sep, TrG, TrH: joined. -/
import Derived.Test.YtdmegkkifiahdaaGreatKE
import Derived.Test.YtdmegkkifiahdaaGreatKD
import Derived.Test.YtdmegkkifiahdaaGreatPC
/- The walks of package transport: the root, the carrier of a datum, a grown radius, the middle of a box. -/
namespace Go.Proofs.YtdmegkkifiahdaaGreat
open Go.RowKit Go.Shelf
attribute [local go_sem] bqOp bqAll bqUpon sqOp sqAll sqUpon ssAll ssOp
attribute [local irreducible] wpQuiet wpBQ wpPlan wsPlan
set_option linter.unusedVariables false
theorem run_maxW {P : Program} (w : World) (ts : Array TypeId) (t : TypeId) (k k' : IntKind) (x y : Int) : (Builtin.max_ ts t #[.int k x, .int k' y]).run P w = .ok (.int k (max x y)) w := by
  have e : (if y > x then y else x) = max x y := by
    rw [Int.max_def]
    split <;> split <;> omega
  simp [Builtin.max_, Builtin.max2, e]
theorem run_minW {P : Program} (w : World) (ts : Array TypeId) (t : TypeId) (k k' : IntKind) (x y : Int) : (Builtin.min_ ts t #[.int k x, .int k' y]).run P w = .ok (.int k (min x y)) w := by
  have e : (if y < x then y else x) = min x y := by
    rw [Int.min_def]
    split <;> split <;> omega
  simp [Builtin.min_, Builtin.min2, e]
theorem run_max4W {P : Program} (w : World) (ts : Array TypeId) (t : TypeId) (k k1 k2 k3 : IntKind) (x y z u : Int) : (Builtin.max_ ts t #[.int k x, .int k1 y, .int k2 z, .int k3 u]).run P w = .ok (.int k (max (max (max x y) z) u)) w := by
  have e : ∀ x y : Int, (if y > x then y else x) = max x y := fun x y => by
    rw [Int.max_def]
    split <;> split <;> omega
  simp only [gt_iff_lt] at e
  simp [Builtin.max_, Builtin.max2, e]
theorem trroot1_any (n r : Int) (B : Nat) (w : World) (h0 : 0 ≤ r ∧ r ≤ 5000000) (hb : w.heap[B]? = some (.cells #[.int .i64 n] 3 (0, 0))) {v : Bool} (hv : decide (n ≤ r * r) = v) :
    Calls Tryz.prog 318 #[.int .i64 r, .pointer (some ⟨B, 0, none⟩)] w fun e w' => e = .returned (.bool v) ∧ Below w.heap.size w w' := by
  have HV := Lib.hid hv
  have c0 := cell_block hb 0
  obtain ⟨m1, m2⟩ := mul_bd (a := r) (b := r) (A := 5000000) (B := 5000000) (by omega) h0.2 (by omega) h0.2
  clear hv
  go_enter Tryz.func318, Tryz.ntmps318
  go_wp2
  go_returns
  exact ⟨ret_bool HV.out, Below.refl _ _⟩
theorem srchInt_root (n : Int) (B : Nat) (w : World) (h0 : 0 ≤ n) (h1 : dHi n ≤ 4000000) (hb : w.heap[B]? = some (.cells #[.int .i64 n] 3 (0, 0))) {v : Int} (hv : dHi n = v) :
    Calls Tryz.prog 317 #[.int .i64 5000000, .func (.func 318) #[] #[.pointer (some ⟨B, 0, none⟩)]] w fun e w' => e = .returned (.int .i64 v) ∧ Below w.heap.size w w' := by
  have D : Hid (∀ r : Int, 0 ≤ r → decide (n ≤ r * r) = decide (v ≤ r)) := Lib.hid (fun r hr => by rw [decide_eq_decide, dHi_iff h0 hr, hv])
  have hv0 : 0 ≤ v := by rw [← hv]; exact (dHi_sq h0).2
  rw [hv] at h1
  have BK := Lib.hid hb
  clear hb hv
  go_enter Tryz.func317, Tryz.ntmps317
  go_wp2
  go_loopw [5, 6] (fun x y wr => ∃ a b : Nat, a ≤ b ∧ b ≤ 5000000 ∧ x = .int .i64 a ∧ y = .int .i64 b ∧ Below w.heap.size w wr ∧ (a : Int) ≤ v ∧ v ≤ (b : Int)) (fun x y _ => (Go.RowKit.intOf y - Go.RowKit.intOf x).toNat)
  case atStart => exact ⟨0, 5000000, by omega, by omega, rfl, rfl, Below.refl _ _, by omega, by omega⟩
  case round =>
    obtain ⟨a, b, hab, hbn, rfl, rfl, hb, ha1, hb1⟩ := hrel
    rcases Nat.lt_or_ge a b with hlt | hge
    · obtain ⟨m, hm⟩ : ∃ m, (a + b) / 2 = m := ⟨_, rfl⟩
      have hm1 : a ≤ m := by omega
      have hm2 : m < b := by omega
      have j1 : ((a : Int) + (b : Int)) / 2 = (m : Int) := by omega
      clear hm
      obtain ⟨u, hu⟩ : ∃ u, decide ((n : Int) ≤ (m : Int) * (m : Int)) = u := ⟨_, rfl⟩
      have U := Lib.hid hu
      have U2 : Hid (decide (v ≤ (m : Int)) = u) := Lib.hid (by rw [← D.out _ (by omega)]; exact hu)
      clear hu
      go_wp2_with fail
      (with_reducible refine (trroot1_any n _ B _ ⟨by omega, by omega⟩ (block_later hb BK.out) U.out).mono ?_)
      rintro e w2 ⟨rfl, hb2⟩
      have hB2 := below_step hb hb2
      clear hb2
      cases u
      · have hv2 := of_decide_eq_false U2.out
        go_wp2_with fail
        go_roundw
        case rel => exact ⟨m + 1, b, by omega, by omega, by go_num, rfl, hB2, by omega, by omega⟩
        case measure => simp [Go.RowKit.intOf]; omega
      · have hv2 := of_decide_eq_true U2.out
        go_wp2_with fail
        go_roundw
        case rel => exact ⟨a, m, by omega, by omega, rfl, rfl, hB2, by omega, by omega⟩
        case measure => simp [Go.RowKit.intOf]; omega
    · obtain rfl : a = b := by omega
      have hav : (a : Int) = v := by omega
      go_wp2_with fail
      go_returns
      exact ⟨ret_int hav, hb⟩
theorem trroot_any (n : Int) (w : World) (h0 : 0 ≤ n) (h1 : dHi n ≤ 4000000) {v : Int} (hv : dHi n = v) :
    Calls Tryz.prog 228 #[.int .i64 n] w fun e w' => e = .returned (.int .i64 v) ∧ Below w.heap.size w w' := by
  have HV := Lib.hid hv
  have H0 := Lib.hid h0
  have H1 := Lib.hid h1
  clear hv h0 h1
  go_enter Tryz.func228, Tryz.ntmps228
  go_wp2_with fail
  refine calls_named fun W hW => ?_
  obtain ⟨p1, hB⟩ := box1 hW
  clear hW
  (with_reducible refine (srchInt_root n _ _ H0.out H1.out p1 HV.out).mono ?_)
  rintro e w1 ⟨rfl, hb1⟩
  go_wp2_with fail
  go_returns
  exact ⟨rfl, below_step hB hb1⟩
theorem trroot_eq (n x : Int) (w : World) (hx : x = n) (h0 : 0 ≤ n) (h1 : dHi n ≤ 4000000) {v : Int} (hv : dHi n = v) :
    Calls Tryz.prog 228 #[.int .i64 x] w fun e w' => e = .returned (.int .i64 v) ∧ Below w.heap.size w w' := by
  subst hx
  exact trroot_any x w h0 h1 hv
/-- A datum with its stretch, shrink and slack. -/
@[reducible] def carV (m : Dat) : Value := .agg #[.int .i64 m.a, .int .i64 m.b, .int .i64 m.c, .int .i64 m.d, .int .i64 m.e, .int .i64 m.f, .int .i64 m.r, .int .i64 (stretchD m), .int .i64 (shrinkD m), .int .i64 (slackD m)]
theorem trgrown_any (m : Dat) (r : Int) (w : World) (hm : DatOk m) (h0 : 0 ≤ r) (h1 : r ≤ 100000) {v : Int} (hv : grownD m r = v) :
    Calls Tryz.prog 163 #[carV m, .int .i64 r] w fun e w' => e = .returned (.int .i64 v) ∧ Below w.heap.size w w' := by
  obtain ⟨g1, g2, g3, g4⟩ := grown_bd hm h0 h1
  unfold carV
  unfold grownD at hv
  obtain ⟨s, hs⟩ : ∃ s, stretchD m = s := ⟨_, rfl⟩
  rw [hs] at g1 g2 hv ⊢
  have HV : Hid ((r * s + 1000000 - 1) / 1000000 = v) := Lib.hid (by rw [show r * s + 1000000 - 1 = r * s + 999999 by omega]; exact hv)
  clear hv hs g3 g4 hm
  go_enter Tryz.func163, Tryz.ntmps163
  go_wp2
  go_returns
  exact ⟨ret_int HV.out, by go_grown⟩
theorem trmiddle_any (lx hx ly hy : Int) (w : World) (h1 : -1000000 ≤ lx ∧ lx ≤ 1000000) (h2 : -1000000 ≤ hx ∧ hx ≤ 1000000) (h3 : -1000000 ≤ ly ∧ ly ≤ 1000000) (h4 : -1000000 ≤ hy ∧ hy ≤ 1000000) {x y : Int} (hvx : (lx + hx) / 2 = x) (hvy : (ly + hy) / 2 = y) :
    Calls Tryz.prog 433 #[.agg #[.int .i64 lx, .int .i64 hx, .int .i64 ly, .int .i64 hy]] w fun e w' => e = .returned (.agg #[.int .i64 x, .int .i64 y]) ∧ Below w.heap.size w w' := by
  have HB := Lib.hid (((Below.refl w.heap.size w).alloc (Nat.le_refl _) (.cells #[.int .i64 lx, .int .i64 hx, .int .i64 ly, .int .i64 hy] 240)).alloc (by simp only [World.size_alloc]; omega) (.cells #[.int .i64 x, .int .i64 y] 28))
  go_enter Tryz.func433, Tryz.ntmps433
  go_wp2
  exact bodyPost_ret (v := .agg #[.int .i64 x, .int .i64 y]) (by simp [results, Tryz.results433, go_sem]) rfl ⟨rfl, HB.out⟩
end Go.Proofs.YtdmegkkifiahdaaGreat
/- The walks of package transport: the carrier of a datum, where a place is carried, a carried disc. -/
namespace Go.Proofs.YtdmegkkifiahdaaGreat
open Go.RowKit Go.Shelf
attribute [local go_sem] bqOp bqAll bqUpon sqOp sqAll sqUpon ssAll ssOp
attribute [local irreducible] wpQuiet wpBQ wpPlan wsPlan
attribute [local go_sem high] run_maxW run_minW run_max4W
set_option linter.unusedVariables false
def partK (m : Dat) (i : Nat) : Int := if i = 0 then m.a else if i = 1 then m.b else if i = 2 then m.d else m.e
def oddK (m : Dat) : Nat → Bool
  | 0 => false
  | k + 1 => oddK m k || decide (partK m k % 1000000 ≠ 0)
theorem odd_res (m : Dat) : (if oddK m 4 = true then m.r + 1 else m.r) = resD m := by
  unfold resD
  by_cases h : WholeD m
  · rw [if_pos h, if_neg]
    obtain ⟨h1, h2, h3, h4⟩ := h
    simp [oddK, partK, h1, h2, h3, h4]
  · rw [if_neg h, if_pos]
    unfold WholeD at h
    simp only [oddK, partK, Bool.or_eq_true, decide_eq_true_eq, Bool.false_eq_true, if_true]
    simp
    omega
theorem tmod_zero {x : Int} : x.tmod 1000000 = 0 ↔ x % 1000000 = 0 := by
  rw [← Int.dvd_iff_tmod_eq_zero, Int.dvd_iff_emod_eq_zero]
set_option maxRecDepth 20000 in
set_option maxHeartbeats 4000000 in
theorem trcarry_any (m : Dat) (w : World) (hm : DatOk m) : Calls Tryz.prog 140 #[.agg #[.int .i64 m.a, .int .i64 m.b, .int .i64 m.c, .int .i64 m.d, .int .i64 m.e, .int .i64 m.f, .int .i64 m.r]] w fun z w' => z = .returned (carV m) ∧ Below w.heap.size w w' := by
  obtain ⟨n0, hn0⟩ : ∃ n, stretchN m = n := ⟨_, rfl⟩
  obtain ⟨n1, n2, n3⟩ := stretchN_bd hm
  obtain ⟨s1, s2, s3⟩ := stretch_bd hm
  obtain ⟨k1, k2⟩ := shrink_bd hm
  obtain ⟨l1, l2⟩ := slack_bd hm
  obtain ⟨r1, r2⟩ := res_bd hm
  have HRES := Lib.hid (odd_res m)
  have HS : Hid (dHi n0 = stretchD m) := Lib.hid (by rw [← hn0]; rfl)
  have HL : Hid (dHi (2 * resD m * resD m) = slackD m) := Lib.hid rfl
  have hdet := hm.2.1
  have HK : Hid ((m.a * m.e - m.b * m.d).tdiv (stretchD m) = shrinkD m) := Lib.hid (by rw [Int.tdiv_eq_ediv_of_nonneg (by omega)]; rfl)
  have hrs := sq_mono r1 r2
  have hrs0 := sq_nn (resD m)
  have e2 : 2 * resD m * resD m = 2 * (resD m * resD m) := Int.mul_assoc ..
  have HPART : Hid (∀ i, partK m i = if i = 0 then m.a else if i = 1 then m.b else if i = 2 then m.d else m.e) := Lib.hid (fun _ => rfl)
  have HODD : Hid (∀ k, oddK m (k + 1) = (oddK m k || decide (partK m k % 1000000 ≠ 0))) := Lib.hid (fun _ => rfl)
  have HOD0 : Hid (oddK m 0 = false) := Lib.hid rfl
  have HDO := Lib.hid hm
  obtain ⟨⟨ha, hb, hd, he⟩, _, hc, hf, hr⟩ := hm
  replace hr : 0 ≤ m.r ∧ m.r ≤ 1000 := hr
  obtain ⟨hr1, hr2⟩ := hr
  obtain ⟨aa1, aa2⟩ := part_mul ha ha
  obtain ⟨ab1, ab2⟩ := part_mul ha hb
  obtain ⟨ae1, ae2⟩ := part_mul ha he
  obtain ⟨bb1, bb2⟩ := part_mul hb hb
  obtain ⟨bd1, bd2⟩ := part_mul hb hd
  obtain ⟨dd1, dd2⟩ := part_mul hd hd
  obtain ⟨de1, de2⟩ := part_mul hd he
  obtain ⟨ee1, ee2⟩ := part_mul he he
  rw [hn0] at n1 n2 n3
  unfold stretchN at hn0
  have HN := Lib.hid hn0
  unfold carV
  obtain ⟨s, hs⟩ : ∃ s, stretchD m = s := ⟨_, rfl⟩
  obtain ⟨sh, hsh⟩ : ∃ s, shrinkD m = s := ⟨_, rfl⟩
  obtain ⟨sl, hsl⟩ : ∃ s, slackD m = s := ⟨_, rfl⟩
  obtain ⟨re, hre⟩ : ∃ s, resD m = s := ⟨_, rfl⟩
  obtain ⟨od, hod⟩ : ∃ f, oddK m = f := ⟨_, rfl⟩
  obtain ⟨pk, hpk⟩ : ∃ f, partK m = f := ⟨_, rfl⟩
  rw [hs] at s1 s2 s3 HS HK ⊢
  rw [hsh] at k1 k2 HK ⊢
  rw [hsl] at l1 l2 HL ⊢
  rw [hre] at r1 r2 HL HRES hrs hrs0 e2
  rw [hod] at HRES HODD HOD0
  rw [hpk] at HPART HODD
  clear hs hsh hsl hre hod hpk hn0
  obtain ⟨a, b, c, d, e, f, r⟩ := m
  dsimp only at *
  clear ha hb hd he hc hf
  obtain ⟨t2, ht2⟩ : ∃ t, re * re = t := ⟨_, rfl⟩
  rw [ht2] at hrs0 hrs e2
  have E2 := Lib.hid e2
  have T2 := Lib.hid ht2
  clear e2 ht2
  have hs0 : s ≠ 0 := by omega
  have hs1 : s ≠ -1 := by omega
  go_enter Tryz.func140, Tryz.ntmps140
  go_wp2_with fail
  refine calls_named fun W hW => ?_
  obtain ⟨p1, p2, hB⟩ := box2 hW
  clear hW
  have P1 := Lib.hid p1
  have P2 := Lib.hid p2
  clear p1 p2
  (with_reducible refine (trroot_eq n0 _ _ (by have := HN.out; omega) (by omega) (by rw [HS.out]; exact s2) HS.out).mono ?_)
  rintro z w1 ⟨rfl, hb1⟩
  have hB1 := below_step hB hb1
  have c1 := cell_block (block_later hb1 P1.out)
  go_wp2_with fail

  refine wp_named fun W2 hW2 => ?_
  obtain ⟨p3, hB2⟩ := box1 hW2
  clear hW2
  have P3 := Lib.hid p3
  have hB3 := below_step hB1 hB2
  have hX3 := below_step hb1 hB2
  clear p3 c1
  go_loopw [5, 60] (fun n i wr => ∃ k : Nat, k ≤ 4 ∧ i = .int .i64 k ∧ n = .int .i64 (if od k = true then r + 1 else r) ∧ Below W2.heap.size W2 wr) (fun _ i _ => 4 - (Go.RowKit.intOf i).toNat)
  case atStart => exact ⟨0, by omega, rfl, by rw [HOD0.out]; rfl, Below.refl _ _⟩
  case round =>
    obtain ⟨k, hk, rfl, rfl, hbr⟩ := hrel
    have BR := Lib.hid hbr
    clear hbr
    rcases Nat.lt_or_ge k 4 with hlt | hge
    · obtain ⟨q, hq⟩ : ∃ q, pk k = q := ⟨_, rfl⟩
      have Q := Lib.hid hq
      have HO := Lib.hid (HODD.out k)
      clear hq
      have c3 := cell_block (block_later BR.out P3.out)
      have c1 := cell_block (block_later (below_step hX3 BR.out) P1.out)
      have ck : wr.cell? ⟨w1.heap.size, k, none⟩ = some (.int .i64 q) := by
        rw [c3, ← Q.out, HPART.out]
        obtain rfl | rfl | rfl | rfl : k = 0 ∨ k = 1 ∨ k = 2 ∨ k = 3 := by omega
        all_goals rfl
      clear c3
      obtain ⟨y, hy⟩ : ∃ y, od k = y := ⟨_, rfl⟩
      rw [hy] at HO
      rw [hy]
      clear hy
      by_cases hz : q.tmod 1000000 = 0
      · have HZ := Lib.hid (tmod_zero.1 hz)
        have d : (q.tmod 1000000 != 0) = false := by simp [hz]
        clear hz
        go_wp2_with fail
        go_roundw
        case rel => exact ⟨k + 1, by omega, by go_num, by rw [HO.out, Q.out, show decide (q % 1000000 ≠ 0) = false from decide_eq_false (by simpa using HZ.out), Bool.or_false], BR.out⟩
        case measure => simp [Go.RowKit.intOf]; omega
      · have HZ := Lib.hid (fun h => hz (tmod_zero.2 h))
        have d : (q.tmod 1000000 != 0) = true := by simp [hz]
        clear hz
        go_wp2_with fail
        go_roundw
        case rel => exact ⟨k + 1, by omega, by go_num, by rw [HO.out, Q.out, show decide (q % 1000000 ≠ 0) = true from decide_eq_true HZ.out, Bool.or_true]; rfl, BR.out⟩
        case measure => simp [Go.RowKit.intOf]; omega
    · obtain rfl : k = 4 := by omega
      rw [HRES.out]
      go_wp2_with fail

      have BW := Lib.hid (below_step hB3 BR.out)
      have p1 := block_later (below_step hX3 BR.out) (block_later (Below.refl _ _) P1.out)
      have p2 := block_later (below_step hX3 BR.out) P2.out
      have hsz := lt_block p2
      have F1 : ∀ w', KeepB wr w.heap.size [w.heap.size] w' → ∀ i, w'.cell? ⟨w.heap.size, i, none⟩ = #[.int .i64 a, .int .i64 b, .int .i64 c, .int .i64 d, .int .i64 e, .int .i64 f, .int .i64 r][i]? := fun w' hw i => cell_block (hw.at (by simp) p1) i
      have R2 := Lib.hid p2
      have HIN := Lib.hid (show ∀ b ∈ [w.heap.size], b < wr.heap.size from fun b hb => by
        simp only [List.mem_cons, List.not_mem_nil, or_false] at hb
        omega)
      have j1 : IntKind.i64.wrap (a * e) = a * e := IntWalk.i64_in _ (by omega)
      have j2 : IntKind.i64.wrap (b * d) = b * d := IntWalk.i64_in _ (by omega)
      have j3 : IntKind.i64.wrap (a * e - b * d) = a * e - b * d := IntWalk.i64_in _ (by omega)
      have j4 : IntKind.i64.wrap ((a * e - b * d).tdiv s) = sh := by rw [HK.out]; exact IntWalk.i64_in _ (by omega)
      have j5 : IntKind.i64.wrap (2 * re) = 2 * re := IntWalk.i64_in _ (by omega)
      have j6 : IntKind.i64.wrap (2 * re * re) = 2 * re * re := by rw [E2.out]; exact IntWalk.i64_in _ (by omega)
      have HT := Lib.hid (show 0 ≤ 2 * re * re by rw [E2.out]; omega)
      have HT2 := Lib.hid (show dHi (2 * re * re) ≤ 4000000 by rw [HL.out]; omega)
      clear p1 p2 aa1 aa2 ab1 ab2 ae1 ae2 bb1 bb2 bd1 bd2 dd1 dd2 de1 de2 ee1 ee2 n1 n2 n3 s3 hrs hrs0 hdet
      refine wp_region_planS (KeepB wr w.heap.size [w.heap.size]) (.take 0 (.take 0 (.take 0 (.take 0 (.take 0 (.take 0 (.take 0 (.take 0 (.take 0 (.take 0 (.take 0 (.take 0 (.take 0 (.take 0 (.take 0 (.take 0 (.take 0 (.take 0 (.take 0 (.only 0 (.take 0 (.only 0 .done)))))))))))))))))))))) (by kernel_rfl) (by kernel_rfl) KeepB.refl (fun hP => ?_)
      (refine wsPlan_take rfl (fun K hK => ?_); replace hK := Lib.hid hK; go_simp; first | (refine hK.out _ ?_; clear hK K) | (apply Exists.intro; refine ⟨fun w' hw => ?_, hK.out _ ?_⟩; (first | with_reducible exact rfl | (have f1 := F1 w' hw; go_simp; exact rfl)); clear hK K))
      (refine wsPlan_take rfl (fun K hK => ?_); replace hK := Lib.hid hK; go_simp; first | (refine hK.out _ ?_; clear hK K) | (apply Exists.intro; refine ⟨fun w' hw => ?_, hK.out _ ?_⟩; (first | with_reducible exact rfl | (have f1 := F1 w' hw; go_simp; exact rfl)); clear hK K))
      (refine wsPlan_take rfl (fun K hK => ?_); replace hK := Lib.hid hK; go_simp; first | (refine hK.out _ ?_; clear hK K) | (apply Exists.intro; refine ⟨fun w' hw => ?_, hK.out _ ?_⟩; (first | with_reducible exact rfl | (have f1 := F1 w' hw; go_simp; exact rfl)); clear hK K))
      (refine wsPlan_take rfl (fun K hK => ?_); replace hK := Lib.hid hK; go_simp; first | (refine hK.out _ ?_; clear hK K) | (apply Exists.intro; refine ⟨fun w' hw => ?_, hK.out _ ?_⟩; (first | with_reducible exact rfl | (have f1 := F1 w' hw; go_simp; exact rfl)); clear hK K))
      (refine wsPlan_take rfl (fun K hK => ?_); replace hK := Lib.hid hK; go_simp; first | (refine hK.out _ ?_; clear hK K) | (apply Exists.intro; refine ⟨fun w' hw => ?_, hK.out _ ?_⟩; (first | with_reducible exact rfl | (have f1 := F1 w' hw; go_simp; exact rfl)); clear hK K))
      (refine wsPlan_take rfl (fun K hK => ?_); replace hK := Lib.hid hK; go_simp; first | (refine hK.out _ ?_; clear hK K) | (apply Exists.intro; refine ⟨fun w' hw => ?_, hK.out _ ?_⟩; (first | with_reducible exact rfl | (have f1 := F1 w' hw; go_simp; exact rfl)); clear hK K))
      (refine wsPlan_take rfl (fun K hK => ?_); replace hK := Lib.hid hK; go_simp; first | (refine hK.out _ ?_; clear hK K) | (apply Exists.intro; refine ⟨fun w' hw => ?_, hK.out _ ?_⟩; (first | with_reducible exact rfl | (have f1 := F1 w' hw; go_simp; exact rfl)); clear hK K))
      (refine wsPlan_take rfl (fun K hK => ?_); replace hK := Lib.hid hK; go_simp; first | (refine hK.out _ ?_; clear hK K) | (apply Exists.intro; refine ⟨fun w' hw => ?_, hK.out _ ?_⟩; (first | with_reducible exact rfl | (have f1 := F1 w' hw; go_simp; exact rfl)); clear hK K))
      (refine wsPlan_take rfl (fun K hK => ?_); replace hK := Lib.hid hK; go_simp; first | (refine hK.out _ ?_; clear hK K) | (apply Exists.intro; refine ⟨fun w' hw => ?_, hK.out _ ?_⟩; (first | with_reducible exact rfl | (have f1 := F1 w' hw; go_simp; exact rfl)); clear hK K))
      (refine wsPlan_take rfl (fun K hK => ?_); replace hK := Lib.hid hK; go_simp; first | (refine hK.out _ ?_; clear hK K) | (apply Exists.intro; refine ⟨fun w' hw => ?_, hK.out _ ?_⟩; (first | with_reducible exact rfl | (have f1 := F1 w' hw; go_simp; exact rfl)); clear hK K))
      (refine wsPlan_take rfl (fun K hK => ?_); replace hK := Lib.hid hK; go_simp; first | (refine hK.out _ ?_; clear hK K) | (apply Exists.intro; refine ⟨fun w' hw => ?_, hK.out _ ?_⟩; (first | with_reducible exact rfl | (have f1 := F1 w' hw; go_simp; exact rfl)); clear hK K))
      (refine wsPlan_take rfl (fun K hK => ?_); replace hK := Lib.hid hK; go_simp; first | (refine hK.out _ ?_; clear hK K) | (apply Exists.intro; refine ⟨fun w' hw => ?_, hK.out _ ?_⟩; (first | with_reducible exact rfl | (have f1 := F1 w' hw; go_simp; exact rfl)); clear hK K))
      (refine wsPlan_take rfl (fun K hK => ?_); replace hK := Lib.hid hK; go_simp; first | (refine hK.out _ ?_; clear hK K) | (apply Exists.intro; refine ⟨fun w' hw => ?_, hK.out _ ?_⟩; (first | with_reducible exact rfl | (have f1 := F1 w' hw; go_simp; exact rfl)); clear hK K))
      (refine wsPlan_take rfl (fun K hK => ?_); replace hK := Lib.hid hK; go_simp; first | (refine hK.out _ ?_; clear hK K) | (apply Exists.intro; refine ⟨fun w' hw => ?_, hK.out _ ?_⟩; (first | with_reducible exact rfl | (have f1 := F1 w' hw; go_simp; exact rfl)); clear hK K))
      (refine wsPlan_take rfl (fun K hK => ?_); replace hK := Lib.hid hK; go_simp; first | (refine hK.out _ ?_; clear hK K) | (apply Exists.intro; refine ⟨fun w' hw => ?_, hK.out _ ?_⟩; (first | with_reducible exact rfl | (have f1 := F1 w' hw; go_simp; exact rfl)); clear hK K))
      (refine wsPlan_take rfl (fun K hK => ?_); replace hK := Lib.hid hK; go_simp; first | (refine hK.out _ ?_; clear hK K) | (apply Exists.intro; refine ⟨fun w' hw => ?_, hK.out _ ?_⟩; (first | with_reducible exact rfl | (have f1 := F1 w' hw; go_simp; exact rfl)); clear hK K))
      (refine wsPlan_take rfl (fun K hK => ?_); replace hK := Lib.hid hK; go_simp; first | (refine hK.out _ ?_; clear hK K) | (apply Exists.intro; refine ⟨fun w' hw => ?_, hK.out _ ?_⟩; (first | with_reducible exact rfl | (have f1 := F1 w' hw; go_simp; exact rfl)); clear hK K))
      (refine wsPlan_take rfl (fun K hK => ?_); replace hK := Lib.hid hK; go_simp; first | (refine hK.out _ ?_; clear hK K) | (apply Exists.intro; refine ⟨fun w' hw => ?_, hK.out _ ?_⟩; (first | with_reducible exact rfl | (have f1 := F1 w' hw; go_simp; exact rfl)); clear hK K))
      (refine wsPlan_take rfl (fun K hK => ?_); replace hK := Lib.hid hK; go_simp; first | (refine hK.out _ ?_; clear hK K) | (apply Exists.intro; refine ⟨fun w' hw => ?_, hK.out _ ?_⟩; (first | with_reducible exact rfl | (have f1 := F1 w' hw; go_simp; exact rfl)); clear hK K))
      (refine wsPlan_only rfl (fun K hK => ?_); replace hK := Lib.hid hK; go_simp; go_at_call 228; (with_reducible refine (trroot_any _ _ HT.out HT2.out HL.out).mono ?_); rintro z w5 ⟨rfl, hb5⟩; have hP1 := hP.call hb5 BW.out.size HIN.out; have r2 := block_later hb5 (show wr.drew.heap[w.heap.size + 1]? = _ from R2.out); refine hK.out _ _ hP1 (fun hP => ?_); clear hK K)
      have f2 := free_block r2
      have c2 := cell_block r2
      (refine wsPlan_take rfl (fun K hK => ?_); replace hK := Lib.hid hK; go_simp; first | (refine hK.out _ ?_; clear hK K) | (apply Exists.intro; refine ⟨fun w' hw => ?_, hK.out _ ?_⟩; (first | with_reducible exact rfl | (go_simp; exact rfl)); clear hK K))
      (refine wsPlan_only rfl (fun K hK => ?_); replace hK := Lib.hid hK; go_simp; refine hK.out _ _ (by exact ((((((((((hP.setCell (by omega) (by simp <;> omega) _).setCell (by omega) (by simp <;> omega) _).setCell (by omega) (by simp <;> omega) _).setCell (by omega) (by simp <;> omega) _).setCell (by omega) (by simp <;> omega) _).setCell (by omega) (by simp <;> omega) _).setCell (by omega) (by simp <;> omega) _).setCell (by omega) (by simp <;> omega) _).setCell (by omega) (by simp <;> omega) _).setCell (by omega) (by simp <;> omega) _)) (fun hP => ?_); clear hK K)
      refine wsPlan_done ?_
      have c9 := cell_block (block_set (i := 9) (block_set (i := 8) (block_set (i := 7) (block_set (i := 6) (block_set (i := 5) (block_set (i := 4) (block_set (i := 3) (block_set (i := 2) (block_set (i := 1) (block_set (i := 0) r2 (.int .i64 a)) (.int .i64 b)) (.int .i64 c)) (.int .i64 d)) (.int .i64 e)) (.int .i64 f)) (.int .i64 r)) (.int .i64 s)) (.int .i64 sh)) (.int .i64 sl))
      go_wp2_with fail
      exact bodyPost_ret (v := .agg #[.int .i64 a, .int .i64 b, .int .i64 c, .int .i64 d, .int .i64 e, .int .i64 f, .int .i64 r, .int .i64 s, .int .i64 sh, .int .i64 sl]) (by simp [results, Tryz.results140, go_sem, c9]) rfl ⟨rfl, BW.out.trans hP.1⟩
end Go.Proofs.YtdmegkkifiahdaaGreat
/- The walks of package transport: where a place is carried; a carried disc. -/
namespace Go.Proofs.YtdmegkkifiahdaaGreat
open Go.RowKit Go.Shelf
attribute [local go_sem] bqOp bqAll bqUpon sqOp sqAll sqUpon ssAll ssOp
attribute [local irreducible] wpQuiet wpBQ wpPlan wsPlan
attribute [local go_sem high] run_maxW run_minW run_max4W
set_option linter.unusedVariables false
theorem carR_cases {b0 b : Bx} {k : Int} (h : carR b0 = (b, k)) : (BxOk b0 ∧ b = b0 ∧ k = 0) ∨ (¬ BxOk b0 ∧ b = ⟨0, 0, 0, 0⟩ ∧ k = 3) := by
  unfold carR at h
  by_cases hb : BxOk b0
  · rw [if_pos hb] at h
    exact .inl ⟨hb, (congrArg Prod.fst h).symm, (congrArg Prod.snd h).symm⟩
  · rw [if_neg hb] at h
    exact .inr ⟨hb, (congrArg Prod.fst h).symm, (congrArg Prod.snd h).symm⟩
/-- Where a place is carried, and whether it is in range. -/
def placeD (m : Dat) (x y : Int) : Pt × Bool := if BxOk (boxOf m (x, y)) then (midB (boxOf m (x, y)), true) else ((0, 0), false)
theorem placeD_cases {m : Dat} {x y : Int} {p : Pt} {u : Bool} (h : placeD m x y = (p, u)) : (BxOk (boxOf m (x, y)) ∧ p = midB (boxOf m (x, y)) ∧ u = true) ∨ (¬ BxOk (boxOf m (x, y)) ∧ p = (0, 0) ∧ u = false) := by
  unfold placeD at h
  by_cases hb : BxOk (boxOf m (x, y))
  · rw [if_pos hb] at h
    exact .inl ⟨hb, (congrArg Prod.fst h).symm, (congrArg Prod.snd h).symm⟩
  · rw [if_neg hb] at h
    exact .inr ⟨hb, (congrArg Prod.fst h).symm, (congrArg Prod.snd h).symm⟩
set_option maxHeartbeats 1000000 in
theorem trplace_any (m : Dat) (x y : Int) (w : World) (hm : DatOk m) (hp : Vld x y) {px py : Int} {u : Bool} (hr : placeD m x y = ((px, py), u)) :
    Calls Tryz.prog 432 #[carV m, .agg #[.int .i64 x, .int .i64 y]] w fun e w' => e = .returned (.tuple #[.agg #[.int .i64 px, .int .i64 py], .bool u]) ∧ Below w.heap.size w w' := by
  obtain ⟨⟨lx, hx, ly, hy⟩, k, hb⟩ : ∃ (b : Bx) (k : Int), carR (boxOf m (x, y)) = (b, k) := ⟨_, _, rfl⟩
  have HR := Lib.hid hb
  have HM := Lib.hid hm
  have HP := Lib.hid hp
  have hd : ((-1000000 ≤ lx ∧ lx ≤ 1000000) ∧ (-1000000 ≤ hx ∧ hx ≤ 1000000) ∧ (-1000000 ≤ ly ∧ ly ≤ 1000000) ∧ (-1000000 ≤ hy ∧ hy ≤ 1000000)) ∧ (lx + hx) / 2 = px ∧ (ly + hy) / 2 = py ∧ (k == 0) = u := by
    rcases carR_cases hb with ⟨h1, h2, h3⟩ | ⟨h1, h2, h3⟩
    · rcases placeD_cases hr with ⟨k1, k2, k3⟩ | ⟨k1, k2, k3⟩
      · rw [← h2] at h1 k2
        obtain ⟨⟨a1, a2, a3⟩, a4, a5, a6⟩ := h1
        subst h3 k3
        dsimp only at a1 a2 a3 a4 a5 a6
        exact ⟨⟨⟨by omega, by omega⟩, ⟨by omega, by omega⟩, ⟨by omega, by omega⟩, ⟨by omega, by omega⟩⟩, (congrArg Prod.fst k2).symm, (congrArg Prod.snd k2).symm, rfl⟩
      · exact absurd h1 k1
    · rcases placeD_cases hr with ⟨k1, k2, k3⟩ | ⟨k1, k2, k3⟩
      · exact absurd k1 h1
      · cases h2
        cases k2
        subst h3 k3
        exact ⟨by decide, rfl, rfl, rfl⟩
  obtain ⟨⟨b1, b2, b3, b4⟩, hx', hy', hu⟩ := hd
  have B1 := Lib.hid b1
  have B2 := Lib.hid b2
  have B3 := Lib.hid b3
  have B4 := Lib.hid b4
  have HX := Lib.hid hx'
  have HY := Lib.hid hy'
  clear b1 b2 b3 b4 hx' hy' hb hr hm hp
  go_enter Tryz.func432, Tryz.ntmps432
  go_wp2_with fail
  refine calls_named fun W hW => ?_
  obtain ⟨p1, p2, p3, hB⟩ := box3 hW
  clear hW
  have P3 := Lib.hid p3
  clear p1 p2 p3
  (with_reducible refine (dtApply_any m _ _ _ HM.out HP.out HR.out).mono ?_)
  rintro z w1 ⟨rfl, hb1⟩
  have hB1 := below_step hB hb1
  dsimp only [boxV]
  go_wp2_with fail
  refine calls_named fun W2 hW2 => ?_
  obtain ⟨p4, hB2⟩ := box1 hW2
  clear hW2
  (with_reducible refine (trmiddle_any _ _ _ _ _ B1.out B2.out B3.out B4.out HX.out HY.out).mono ?_)
  rintro z w2 ⟨rfl, hb2⟩
  have hX2 := below_step hB2 hb2
  have r3 := block_later hX2 (block_later hb1 P3.out)
  have f3 := free_block r3
  have c3 := cell_block r3
  have R3 := Lib.hid r3
  clear r3 p4
  have hB3 := below_step hB1 hX2
  go_wp2_with fail
  have c9 := cell_block (block_set (i := 1) (block_set (i := 0) R3.out (.int .i64 px)) (.int .i64 py))
  exact bodyPost_ret (v := .tuple #[.agg #[.int .i64 px, .int .i64 py], .bool u]) (by simp [results, Tryz.results432, go_sem, c9]) rfl ⟨rfl, (hB3.setCell (by dsimp only; omega) _).setCell (by dsimp only; omega) _⟩
set_option maxHeartbeats 2000000 in
theorem trdisc_any (m : Dat) (x y r : Int) (w : World) (hm : DatOk m) (hp : Vld x y) (h0 : 0 ≤ r) (h1 : r ≤ 100000) {px py : Int} {u : Bool} (hr : placeD m x y = ((px, py), u)) {g : Int} (hg : grownD m r + slackD m = g) :
    Calls Tryz.prog 431 #[.agg #[.int .i64 x, .int .i64 y, .int .i64 r], carV m] w fun e w' => e = .returned (.tuple #[.iface 205 (.agg #[.int .i64 px, .int .i64 py, .int .i64 g]), .bool u]) ∧ Below w.heap.size w w' := by
  have HR := Lib.hid hr
  have HM := Lib.hid hm
  have HP := Lib.hid hp
  have H0 := Lib.hid h0
  have H1 := Lib.hid h1
  obtain ⟨_, _, g3, g4⟩ := grown_bd hm h0 h1
  obtain ⟨l1, l2⟩ := slack_bd hm
  obtain ⟨gr, hgr⟩ : ∃ t, grownD m r = t := ⟨_, rfl⟩
  rw [hgr] at hg g3 g4
  have GR := Lib.hid hgr
  have j1 : IntKind.i64.wrap (gr + slackD m) = g := by rw [hg]; exact IntWalk.i64_in _ (by omega)
  clear hr hm hp h0 h1 hgr hg g3 g4 l1 l2
  go_enter Tryz.func431, Tryz.ntmps431
  go_wp2_with fail
  refine calls_named fun W hW => ?_
  obtain ⟨p1, p2, hB⟩ := box2 hW
  clear hW
  have P1 := Lib.hid p1
  have P2 := Lib.hid p2
  clear p1 p2
  (with_reducible refine (trplace_any m _ _ _ HM.out HP.out HR.out).mono ?_)
  rintro z w1 ⟨rfl, hb1⟩
  have hB1 := below_step hB hb1
  go_wp2_with fail
  refine wp_named fun W2 hW2 => ?_
  obtain ⟨p3, hB2⟩ := box1 hW2
  clear hW2
  have hB3 := Lib.hid (below_step hB1 hB2)
  have hX3 := below_step hb1 hB2
  have p1 := block_later hX3 P1.out
  have p2 := block_later hX3 P2.out
  have hsz := lt_block p2
  have hsz3 := lt_block p3
  have hb1s := hb1.size
  have F1 : ∀ w', KeepB W2 w.heap.size [w.heap.size, w.heap.size + 1, w1.heap.size] w' → ∀ i, w'.cell? ⟨w.heap.size, i, none⟩ = #[.int .i64 x, .int .i64 y, .int .i64 r][i]? := fun w' hw i => cell_block (hw.at (by simp) p1) i
  have F2 : ∀ w', KeepB W2 w.heap.size [w.heap.size, w.heap.size + 1, w1.heap.size] w' → ∀ i, w'.cell? ⟨w.heap.size + 1, i, none⟩ = #[.int .i64 m.a, .int .i64 m.b, .int .i64 m.c, .int .i64 m.d, .int .i64 m.e, .int .i64 m.f, .int .i64 m.r, .int .i64 (stretchD m), .int .i64 (shrinkD m), .int .i64 (slackD m)][i]? := fun w' hw i => cell_block (hw.at (by simp) p2) i
  have F3 : ∀ w', KeepB W2 w.heap.size [w.heap.size, w.heap.size + 1, w1.heap.size] w' → ∀ i, w'.cell? ⟨w1.heap.size, i, none⟩ = #[.int .i64 px, .int .i64 py][i]? := fun w' hw i => cell_block (hw.at (by simp) p3) i
  have HIN := Lib.hid (show ∀ b ∈ [w.heap.size, w.heap.size + 1, w1.heap.size], b < W2.heap.size from fun b hb => by
    simp only [List.mem_cons, List.not_mem_nil, or_false] at hb
    omega)
  clear p1 p2 p3 hsz hsz3 hb1s
  refine wp_region_planS (KeepB W2 w.heap.size [w.heap.size, w.heap.size + 1, w1.heap.size]) (.take 0 (.take 0 (.take 0 (.take 0 (.take 1 (.take 1 (.take 4 (.only 0 (.take 0 (.take 0 (.only 0 (.take 0 (.take 0 .done))))))))))))) (by kernel_rfl) (by kernel_rfl) KeepB.refl (fun hP => ?_)
  (refine wsPlan_take rfl (fun K hK => ?_); replace hK := Lib.hid hK; go_simp; first | (refine hK.out _ ?_; clear hK K) | (apply Exists.intro; refine ⟨fun w' hw => ?_, hK.out _ ?_⟩; (first | with_reducible exact rfl | (have f1 := F1 w' hw; have f2 := F2 w' hw; have f3 := F3 w' hw; go_simp; exact rfl)); clear hK K))
  (refine wsPlan_take rfl (fun K hK => ?_); replace hK := Lib.hid hK; go_simp; first | (refine hK.out _ ?_; clear hK K) | (apply Exists.intro; refine ⟨fun w' hw => ?_, hK.out _ ?_⟩; (first | with_reducible exact rfl | (have f1 := F1 w' hw; have f2 := F2 w' hw; have f3 := F3 w' hw; go_simp; exact rfl)); clear hK K))
  (refine wsPlan_take rfl (fun K hK => ?_); replace hK := Lib.hid hK; go_simp; first | (refine hK.out _ ?_; clear hK K) | (apply Exists.intro; refine ⟨fun w' hw => ?_, hK.out _ ?_⟩; (first | with_reducible exact rfl | (have f1 := F1 w' hw; have f2 := F2 w' hw; have f3 := F3 w' hw; go_simp; exact rfl)); clear hK K))
  (refine wsPlan_take rfl (fun K hK => ?_); replace hK := Lib.hid hK; go_simp; first | (refine hK.out _ ?_; clear hK K) | (apply Exists.intro; refine ⟨fun w' hw => ?_, hK.out _ ?_⟩; (first | with_reducible exact rfl | (have f1 := F1 w' hw; have f2 := F2 w' hw; have f3 := F3 w' hw; go_simp; exact rfl)); clear hK K))
  (refine wsPlan_take rfl (fun K hK => ?_); replace hK := Lib.hid hK; go_simp; first | (refine hK.out _ ?_; clear hK K) | (apply Exists.intro; refine ⟨fun w' hw => ?_, hK.out _ ?_⟩; (first | with_reducible exact rfl | (have f1 := F1 w' hw; have f2 := F2 w' hw; have f3 := F3 w' hw; go_simp; exact rfl)); clear hK K))
  (refine wsPlan_take rfl (fun K hK => ?_); replace hK := Lib.hid hK; go_simp; first | (refine hK.out _ ?_; clear hK K) | (apply Exists.intro; refine ⟨fun w' hw => ?_, hK.out _ ?_⟩; (first | with_reducible exact rfl | (have f1 := F1 w' hw; have f2 := F2 w' hw; have f3 := F3 w' hw; go_simp; exact rfl)); clear hK K))
  (refine wsPlan_take rfl (fun K hK => ?_); replace hK := Lib.hid hK; go_simp; first | (refine hK.out _ ?_; clear hK K) | (apply Exists.intro; refine ⟨fun w' hw => ?_, hK.out _ ?_⟩; (first | with_reducible exact rfl | (have f1 := F1 w' hw; have f2 := F2 w' hw; have f3 := F3 w' hw; go_simp; exact rfl)); clear hK K))
  (refine wsPlan_only rfl (fun K hK => ?_); replace hK := Lib.hid hK; go_simp; go_at_call 163; (with_reducible refine (trgrown_any m _ _ HM.out H0.out H1.out GR.out).mono ?_); rintro z w5 ⟨rfl, hb5⟩; have hP1 := hP.call hb5 hB3.out.size HIN.out; refine hK.out _ _ hP1 (fun hP => ?_); clear hK K)
  (refine wsPlan_take rfl (fun K hK => ?_); replace hK := Lib.hid hK; go_simp; first | (refine hK.out _ ?_; clear hK K) | (apply Exists.intro; refine ⟨fun w' hw => ?_, hK.out _ ?_⟩; (first | with_reducible exact rfl | (have f1 := F1 w' hw; have f2 := F2 w' hw; have f3 := F3 w' hw; go_simp; exact rfl)); clear hK K))
  (refine wsPlan_take rfl (fun K hK => ?_); replace hK := Lib.hid hK; go_simp; first | (refine hK.out _ ?_; clear hK K) | (apply Exists.intro; refine ⟨fun w' hw => ?_, hK.out _ ?_⟩; (first | with_reducible exact rfl | (have f1 := F1 w' hw; have f2 := F2 w' hw; have f3 := F3 w' hw; go_simp; exact rfl)); clear hK K))
  (refine wsPlan_only rfl (fun K hK => ?_); replace hK := Lib.hid hK; go_simp; refine hK.out _ _ hP (fun hP => ?_); clear hK K)
  (refine wsPlan_take rfl (fun K hK => ?_); replace hK := Lib.hid hK; go_simp; first | (refine hK.out _ ?_; clear hK K) | (apply Exists.intro; refine ⟨fun w' hw => ?_, hK.out _ ?_⟩; (first | with_reducible exact rfl | (have f1 := F1 w' hw; have f2 := F2 w' hw; have f3 := F3 w' hw; go_simp; exact rfl)); clear hK K))
  (refine wsPlan_take rfl (fun K hK => ?_); replace hK := Lib.hid hK; go_simp; first | (refine hK.out _ ?_; clear hK K) | (apply Exists.intro; refine ⟨fun w' hw => ?_, hK.out _ ?_⟩; (first | with_reducible exact rfl | (have f1 := F1 w' hw; have f2 := F2 w' hw; have f3 := F3 w' hw; go_simp; exact rfl)); clear hK K))
  refine wsPlan_done ?_
  clear F1 F2 F3
  go_wp2_with fail
  go_ret2
  exact ⟨rfl, hB3.out.trans hP.1⟩
end Go.Proofs.YtdmegkkifiahdaaGreat
/- The walks of package transport: a direction as it is carried. -/
namespace Go.Proofs.YtdmegkkifiahdaaGreat
open Go.RowKit Go.Shelf
attribute [local go_sem] bqOp bqAll bqUpon sqOp sqAll sqUpon ssAll ssOp
attribute [local irreducible] wpQuiet wpBQ wpPlan wsPlan
attribute [local go_sem high] run_maxW run_minW run_max4W
set_option linter.unusedVariables false
/-- A direction as it is carried, and whether it is in range. -/
def dirV (m : Dat) (vx vy : Int) : Pt × Bool :=
  (((m.a * vx + m.b * vy) / (Int.gcd (m.a * vx + m.b * vy) (m.d * vx + m.e * vy) : Int), (m.d * vx + m.e * vy) / (Int.gcd (m.a * vx + m.b * vy) (m.d * vx + m.e * vy) : Int)),
    decide ((-1000000 ≤ (m.a * vx + m.b * vy) / (Int.gcd (m.a * vx + m.b * vy) (m.d * vx + m.e * vy) : Int) ∧ (m.a * vx + m.b * vy) / (Int.gcd (m.a * vx + m.b * vy) (m.d * vx + m.e * vy) : Int) ≤ 1000000) ∧ -1000000 ≤ (m.d * vx + m.e * vy) / (Int.gcd (m.a * vx + m.b * vy) (m.d * vx + m.e * vy) : Int) ∧ (m.d * vx + m.e * vy) / (Int.gcd (m.a * vx + m.b * vy) (m.d * vx + m.e * vy) : Int) ≤ 1000000))
theorem dirD_of (m : Dat) (vx vy : Int) : dirD m vx vy = if (dirV m vx vy).2 = true then some (dirV m vx vy).1 else none := by
  unfold dirD dirV
  simp only [decide_eq_true_eq]
theorem tdiv_dvd {x g : Int} (h : g ∣ x) (hg : 0 < g) : x.tdiv g = x / g := by
  obtain ⟨k, rfl⟩ := h
  rw [Int.mul_tdiv_cancel_left _ (by omega), Int.mul_ediv_cancel_left _ (by omega)]
theorem div_bd {x g A : Int} (h : g ∣ x) (hg : 0 < g) (h1 : -A ≤ x) (h2 : x ≤ A) : -A ≤ x / g ∧ x / g ≤ A := by
  rw [← tdiv_dvd h hg]
  exact tdiv_bd (by omega) h1 h2
set_option maxRecDepth 20000 in
set_option maxHeartbeats 4000000 in
theorem trdir_any (m : Dat) (vx vy : Int) (w : World) (hm : DatOk m) (hv : DirOk vx vy) {wx wy : Int} {u : Bool} (hr : dirV m vx vy = ((wx, wy), u)) :
    Calls Tryz.prog 254 #[carV m, .agg #[.int .i64 vx, .int .i64 vy]] w fun e w' => e = .returned (.tuple #[.agg #[.int .i64 wx, .int .i64 wy], .bool u]) ∧ Below w.heap.size w w' := by
  have hz := dir_stays hm hv.1
  obtain ⟨⟨ha, hb, hd, he⟩, _⟩ := hm
  obtain ⟨_, v1, v2, v3, v4⟩ := hv
  obtain ⟨ax1, ax2⟩ := mul_bd ha.1 ha.2 v3 v1
  obtain ⟨by1, by2⟩ := mul_bd hb.1 hb.2 v4 v2
  obtain ⟨dx1, dx2⟩ := mul_bd hd.1 hd.2 v3 v1
  obtain ⟨ey1, ey2⟩ := mul_bd he.1 he.2 v4 v2
  unfold dirV at hr
  dsimp only [carV]
  obtain ⟨x, hx⟩ : ∃ x, m.a * vx + m.b * vy = x := ⟨_, rfl⟩
  obtain ⟨y, hy⟩ : ∃ x, m.d * vx + m.e * vy = x := ⟨_, rfl⟩
  rw [hx, hy] at hr hz
  have hg0 : 0 < Int.gcd x y := by
    rcases Nat.eq_zero_or_pos (Int.gcd x y) with h | h
    · rw [Int.gcd_eq_zero_iff] at h
      exact absurd h hz
    · exact h
  have dx : (Int.gcd x y : Int) ∣ x := Int.gcd_dvd_left ..
  have dy : (Int.gcd x y : Int) ∣ y := Int.gcd_dvd_right ..
  have G : Hid (Nat.gcd x.natAbs y.natAbs = Int.gcd x y) := Lib.hid rfl
  obtain ⟨g, hg⟩ : ∃ g, Int.gcd x y = g := ⟨_, rfl⟩
  rw [hg] at hr hg0 dx dy G
  have e1 := tdiv_dvd dx (by omega)
  have e2 := tdiv_dvd dy (by omega)
  have b1 := div_bd (A := 4000000000000) dx (by omega) (by omega) (by omega)
  have b2 := div_bd (A := 4000000000000) dy (by omega) (by omega) (by omega)
  obtain ⟨qx, hqx⟩ : ∃ t, x / (g : Int) = t := ⟨_, rfl⟩
  obtain ⟨qy, hqy⟩ : ∃ t, y / (g : Int) = t := ⟨_, rfl⟩
  rw [hqx] at hr e1 b1
  rw [hqy] at hr e2 b2
  have hqx' : qx = wx := congrArg (fun p => p.1.1) hr
  have hqy' : qy = wy := congrArg (fun p => p.1.2) hr
  have hu := congrArg (fun p => p.2) hr
  dsimp only at hu
  subst hqx' hqy'
  have HU : Hid (decide (max (max (max qx (-qx)) qy) (-qy) ≤ 1000000) = u) := Lib.hid (by rw [← hu, decide_eq_decide]; omega)
  have nx : Hid (max x (-x) = (x.natAbs : Int)) := Lib.hid (by omega)
  have ny : Hid (max y (-y) = (y.natAbs : Int)) := Lib.hid (by omega)
  have E1 := Lib.hid e1
  have E2 := Lib.hid e2
  have lx : x.natAbs ≤ 4000000000000 := by omega
  have ly : y.natAbs ≤ 4000000000000 := by omega
  obtain ⟨Ax, hAx⟩ : ∃ n, x.natAbs = n := ⟨_, rfl⟩
  obtain ⟨Ay, hAy⟩ : ∃ n, y.natAbs = n := ⟨_, rfl⟩
  rw [hAx] at nx lx G
  rw [hAy] at ny ly G
  have LX := Lib.hid lx
  have LY := Lib.hid ly
  have B1 := Lib.hid b1
  have B2 := Lib.hid b2
  have G0 := Lib.hid hg0
  have X := Lib.hid hx
  have Y := Lib.hid hy
  have XB := Lib.hid (show -4000000000000 ≤ x ∧ x ≤ 4000000000000 by omega)
  have YB := Lib.hid (show -4000000000000 ≤ y ∧ y ≤ 4000000000000 by omega)
  have j1 : IntKind.i64.wrap (m.a * vx) = m.a * vx := IntWalk.i64_in _ (by omega)
  have j2 : IntKind.i64.wrap (m.b * vy) = m.b * vy := IntWalk.i64_in _ (by omega)
  have j3 : IntKind.i64.wrap (m.d * vx) = m.d * vx := IntWalk.i64_in _ (by omega)
  have j4 : IntKind.i64.wrap (m.e * vy) = m.e * vy := IntWalk.i64_in _ (by omega)
  have j5 : IntKind.i64.wrap (m.a * vx + m.b * vy) = x := by rw [hx]; exact IntWalk.i64_in _ (by omega)
  have j6 : IntKind.i64.wrap (m.d * vx + m.e * vy) = y := by rw [hy]; exact IntWalk.i64_in _ (by omega)
  clear hx hy hz ha hb hd he v1 v2 v3 v4 ax1 ax2 by1 by2 dx1 dx2 ey1 ey2 dx dy hg e1 e2 b1 b2 hqx hqy hr hu lx ly hAx hAy hg0
  go_enter Tryz.func254, Tryz.ntmps254
  go_wp2_with fail
  refine wp_named fun W hW => ?_
  obtain ⟨p1, p2, p3, hB⟩ := box3 hW
  clear hW
  have hsz := lt_block p3
  have F1 : ∀ w', KeepB W w.heap.size [w.heap.size, w.heap.size + 1] w' → ∀ i, w'.cell? ⟨w.heap.size, i, none⟩ = #[.int .i64 m.a, .int .i64 m.b, .int .i64 m.c, .int .i64 m.d, .int .i64 m.e, .int .i64 m.f, .int .i64 m.r, .int .i64 (stretchD m), .int .i64 (shrinkD m), .int .i64 (slackD m)][i]? := fun w' hw i => cell_block (hw.at (by simp) p1) i
  have F2 : ∀ w', KeepB W w.heap.size [w.heap.size, w.heap.size + 1] w' → ∀ i, w'.cell? ⟨w.heap.size + 1, i, none⟩ = #[.int .i64 vx, .int .i64 vy][i]? := fun w' hw i => cell_block (hw.at (by simp) p2) i
  have P3 := Lib.hid p3
  have HB := Lib.hid hB
  clear p1 p2 p3 hsz hB
  refine wp_region_planS (KeepB W w.heap.size [w.heap.size, w.heap.size + 1]) (.take 0 (.take 0 (.take 0 (.take 0 (.take 0 (.take 0 (.take 0 (.take 0 (.take 0 (.take 0 (.take 0 (.take 0 (.take 0 (.take 0 (.take 0 (.take 0 (.take 0 (.take 0 (.take 0 (.take 0 (.take 0 (.take 0 (.take 0 (.take 0 (.take 0 (.take 0 (.take 0 (.take 0 (.done))))))))))))))))))))))))))))) (by kernel_rfl) (by kernel_rfl) KeepB.refl (fun hP => ?_)
  (refine wsPlan_take rfl (fun K hK => ?_); replace hK := Lib.hid hK; go_simp; first | (refine hK.out _ ?_; clear hK K) | (apply Exists.intro; refine ⟨fun w' hw => ?_, hK.out _ ?_⟩; (first | with_reducible exact rfl | (have f1 := F1 w' hw; have f2 := F2 w' hw; go_simp; exact rfl)); clear hK K))
  (refine wsPlan_take rfl (fun K hK => ?_); replace hK := Lib.hid hK; go_simp; first | (refine hK.out _ ?_; clear hK K) | (apply Exists.intro; refine ⟨fun w' hw => ?_, hK.out _ ?_⟩; (first | with_reducible exact rfl | (have f1 := F1 w' hw; have f2 := F2 w' hw; go_simp; exact rfl)); clear hK K))
  (refine wsPlan_take rfl (fun K hK => ?_); replace hK := Lib.hid hK; go_simp; first | (refine hK.out _ ?_; clear hK K) | (apply Exists.intro; refine ⟨fun w' hw => ?_, hK.out _ ?_⟩; (first | with_reducible exact rfl | (have f1 := F1 w' hw; have f2 := F2 w' hw; go_simp; exact rfl)); clear hK K))
  (refine wsPlan_take rfl (fun K hK => ?_); replace hK := Lib.hid hK; go_simp; first | (refine hK.out _ ?_; clear hK K) | (apply Exists.intro; refine ⟨fun w' hw => ?_, hK.out _ ?_⟩; (first | with_reducible exact rfl | (have f1 := F1 w' hw; have f2 := F2 w' hw; go_simp; exact rfl)); clear hK K))
  (refine wsPlan_take rfl (fun K hK => ?_); replace hK := Lib.hid hK; go_simp; first | (refine hK.out _ ?_; clear hK K) | (apply Exists.intro; refine ⟨fun w' hw => ?_, hK.out _ ?_⟩; (first | with_reducible exact rfl | (have f1 := F1 w' hw; have f2 := F2 w' hw; go_simp; exact rfl)); clear hK K))
  (refine wsPlan_take rfl (fun K hK => ?_); replace hK := Lib.hid hK; go_simp; first | (refine hK.out _ ?_; clear hK K) | (apply Exists.intro; refine ⟨fun w' hw => ?_, hK.out _ ?_⟩; (first | with_reducible exact rfl | (have f1 := F1 w' hw; have f2 := F2 w' hw; go_simp; exact rfl)); clear hK K))
  (refine wsPlan_take rfl (fun K hK => ?_); replace hK := Lib.hid hK; go_simp; first | (refine hK.out _ ?_; clear hK K) | (apply Exists.intro; refine ⟨fun w' hw => ?_, hK.out _ ?_⟩; (first | with_reducible exact rfl | (have f1 := F1 w' hw; have f2 := F2 w' hw; go_simp; exact rfl)); clear hK K))
  (refine wsPlan_take rfl (fun K hK => ?_); replace hK := Lib.hid hK; go_simp; first | (refine hK.out _ ?_; clear hK K) | (apply Exists.intro; refine ⟨fun w' hw => ?_, hK.out _ ?_⟩; (first | with_reducible exact rfl | (have f1 := F1 w' hw; have f2 := F2 w' hw; go_simp; exact rfl)); clear hK K))
  (refine wsPlan_take rfl (fun K hK => ?_); replace hK := Lib.hid hK; go_simp; first | (refine hK.out _ ?_; clear hK K) | (apply Exists.intro; refine ⟨fun w' hw => ?_, hK.out _ ?_⟩; (first | with_reducible exact rfl | (have f1 := F1 w' hw; have f2 := F2 w' hw; go_simp; exact rfl)); clear hK K))
  (refine wsPlan_take rfl (fun K hK => ?_); replace hK := Lib.hid hK; go_simp; first | (refine hK.out _ ?_; clear hK K) | (apply Exists.intro; refine ⟨fun w' hw => ?_, hK.out _ ?_⟩; (first | with_reducible exact rfl | (have f1 := F1 w' hw; have f2 := F2 w' hw; go_simp; exact rfl)); clear hK K))
  (refine wsPlan_take rfl (fun K hK => ?_); replace hK := Lib.hid hK; go_simp; first | (refine hK.out _ ?_; clear hK K) | (apply Exists.intro; refine ⟨fun w' hw => ?_, hK.out _ ?_⟩; (first | with_reducible exact rfl | (have f1 := F1 w' hw; have f2 := F2 w' hw; go_simp; exact rfl)); clear hK K))
  (refine wsPlan_take rfl (fun K hK => ?_); replace hK := Lib.hid hK; go_simp; first | (refine hK.out _ ?_; clear hK K) | (apply Exists.intro; refine ⟨fun w' hw => ?_, hK.out _ ?_⟩; (first | with_reducible exact rfl | (have f1 := F1 w' hw; have f2 := F2 w' hw; go_simp; exact rfl)); clear hK K))
  (refine wsPlan_take rfl (fun K hK => ?_); replace hK := Lib.hid hK; go_simp; first | (refine hK.out _ ?_; clear hK K) | (apply Exists.intro; refine ⟨fun w' hw => ?_, hK.out _ ?_⟩; (first | with_reducible exact rfl | (have f1 := F1 w' hw; have f2 := F2 w' hw; go_simp; exact rfl)); clear hK K))
  (refine wsPlan_take rfl (fun K hK => ?_); replace hK := Lib.hid hK; go_simp; first | (refine hK.out _ ?_; clear hK K) | (apply Exists.intro; refine ⟨fun w' hw => ?_, hK.out _ ?_⟩; (first | with_reducible exact rfl | (have f1 := F1 w' hw; have f2 := F2 w' hw; go_simp; exact rfl)); clear hK K))
  (refine wsPlan_take rfl (fun K hK => ?_); replace hK := Lib.hid hK; go_simp; first | (refine hK.out _ ?_; clear hK K) | (apply Exists.intro; refine ⟨fun w' hw => ?_, hK.out _ ?_⟩; (first | with_reducible exact rfl | (have f1 := F1 w' hw; have f2 := F2 w' hw; go_simp; exact rfl)); clear hK K))
  (refine wsPlan_take rfl (fun K hK => ?_); replace hK := Lib.hid hK; go_simp; first | (refine hK.out _ ?_; clear hK K) | (apply Exists.intro; refine ⟨fun w' hw => ?_, hK.out _ ?_⟩; (first | with_reducible exact rfl | (have f1 := F1 w' hw; have f2 := F2 w' hw; go_simp; exact rfl)); clear hK K))
  (refine wsPlan_take rfl (fun K hK => ?_); replace hK := Lib.hid hK; go_simp; first | (refine hK.out _ ?_; clear hK K) | (apply Exists.intro; refine ⟨fun w' hw => ?_, hK.out _ ?_⟩; (first | with_reducible exact rfl | (have f1 := F1 w' hw; have f2 := F2 w' hw; go_simp; exact rfl)); clear hK K))
  (refine wsPlan_take rfl (fun K hK => ?_); replace hK := Lib.hid hK; go_simp; first | (refine hK.out _ ?_; clear hK K) | (apply Exists.intro; refine ⟨fun w' hw => ?_, hK.out _ ?_⟩; (first | with_reducible exact rfl | (have f1 := F1 w' hw; have f2 := F2 w' hw; go_simp; exact rfl)); clear hK K))
  (refine wsPlan_take rfl (fun K hK => ?_); replace hK := Lib.hid hK; go_simp; first | (refine hK.out _ ?_; clear hK K) | (apply Exists.intro; refine ⟨fun w' hw => ?_, hK.out _ ?_⟩; (first | with_reducible exact rfl | (have f1 := F1 w' hw; have f2 := F2 w' hw; go_simp; exact rfl)); clear hK K))
  (refine wsPlan_take rfl (fun K hK => ?_); replace hK := Lib.hid hK; go_simp; first | (refine hK.out _ ?_; clear hK K) | (apply Exists.intro; refine ⟨fun w' hw => ?_, hK.out _ ?_⟩; (first | with_reducible exact rfl | (have f1 := F1 w' hw; have f2 := F2 w' hw; go_simp; exact rfl)); clear hK K))
  (refine wsPlan_take rfl (fun K hK => ?_); replace hK := Lib.hid hK; go_simp; first | (refine hK.out _ ?_; clear hK K) | (apply Exists.intro; refine ⟨fun w' hw => ?_, hK.out _ ?_⟩; (first | with_reducible exact rfl | (have f1 := F1 w' hw; have f2 := F2 w' hw; go_simp; exact rfl)); clear hK K))
  (refine wsPlan_take rfl (fun K hK => ?_); replace hK := Lib.hid hK; go_simp; first | (refine hK.out _ ?_; clear hK K) | (apply Exists.intro; refine ⟨fun w' hw => ?_, hK.out _ ?_⟩; (first | with_reducible exact rfl | (have f1 := F1 w' hw; have f2 := F2 w' hw; go_simp; exact rfl)); clear hK K))
  (refine wsPlan_take rfl (fun K hK => ?_); replace hK := Lib.hid hK; go_simp; first | (refine hK.out _ ?_; clear hK K) | (apply Exists.intro; refine ⟨fun w' hw => ?_, hK.out _ ?_⟩; (first | with_reducible exact rfl | (have f1 := F1 w' hw; have f2 := F2 w' hw; go_simp; exact rfl)); clear hK K))
  (refine wsPlan_take rfl (fun K hK => ?_); replace hK := Lib.hid hK; go_simp; first | (refine hK.out _ ?_; clear hK K) | (apply Exists.intro; refine ⟨fun w' hw => ?_, hK.out _ ?_⟩; (first | with_reducible exact rfl | (have f1 := F1 w' hw; have f2 := F2 w' hw; go_simp; exact rfl)); clear hK K))
  (refine wsPlan_take rfl (fun K hK => ?_); replace hK := Lib.hid hK; go_simp; first | (refine hK.out _ ?_; clear hK K) | (apply Exists.intro; refine ⟨fun w' hw => ?_, hK.out _ ?_⟩; (first | with_reducible exact rfl | (have f1 := F1 w' hw; have f2 := F2 w' hw; go_simp; exact rfl)); clear hK K))
  (refine wsPlan_take rfl (fun K hK => ?_); replace hK := Lib.hid hK; go_simp; first | (refine hK.out _ ?_; clear hK K) | (apply Exists.intro; refine ⟨fun w' hw => ?_, hK.out _ ?_⟩; (first | with_reducible exact rfl | (have f1 := F1 w' hw; have f2 := F2 w' hw; go_simp; exact rfl)); clear hK K))
  (refine wsPlan_take rfl (fun K hK => ?_); replace hK := Lib.hid hK; go_simp; first | (refine hK.out _ ?_; clear hK K) | (apply Exists.intro; refine ⟨fun w' hw => ?_, hK.out _ ?_⟩; (first | with_reducible exact rfl | (have f1 := F1 w' hw; have f2 := F2 w' hw; go_simp; exact rfl)); clear hK K))
  (refine wsPlan_take rfl (fun K hK => ?_); replace hK := Lib.hid hK; go_simp; first | (refine hK.out _ ?_; clear hK K) | (apply Exists.intro; refine ⟨fun w' hw => ?_, hK.out _ ?_⟩; (first | with_reducible exact rfl | (have f1 := F1 w' hw; have f2 := F2 w' hw; go_simp; exact rfl)); clear hK K))
  refine wsPlan_done ?_
  clear F1 F2 j1 j2 j3 j4 j5 j6 hP
  obtain ⟨x1, x2⟩ := XB.out
  obtain ⟨y1, y2⟩ := YB.out
  have HB2 := Lib.hid (HB.out.drew)
  have P3 := Lib.hid (show W.drew.heap[w.heap.size + 2]? = _ from P3.out)
  clear HB
  obtain ⟨W1, hW1⟩ : ∃ W1 : World, W.drew = W1 := ⟨_, rfl⟩
  rw [hW1] at HB2 P3 ⊢
  clear hW1
  go_wp2_with fail
  rw [nx.out, ny.out]
  clear x1 x2 y1 y2
  go_loopw [8, 9] (fun a b wr => ∃ A B : Nat, a = .int .i64 A ∧ b = .int .i64 B ∧ Nat.gcd A B = g ∧ A ≤ 4000000000000 ∧ B ≤ 4000000000000 ∧ Below W1.heap.size W1 wr) (fun _ b _ => (Go.RowKit.intOf b).toNat)
  case atStart => exact ⟨Ax, Ay, rfl, rfl, G.out, LX.out, LY.out, Below.refl _ _⟩
  case round =>
    obtain ⟨A, B, rfl, rfl, hgcd, hA, hBB, hbr⟩ := hrel
    by_cases hb0 : B = 0
    · subst hb0
      rw [Nat.gcd_zero_right] at hgcd
      subst hgcd
      have hg0 : A ≠ 0 := by have := G0.out; omega
      have hg1 : (A : Int) ≠ 0 := by omega
      have hg2 : (A : Int) ≠ -1 := by omega
      have k1 : IntKind.i64.wrap (x.tdiv (A : Int)) = qx := by rw [E1.out]; have := B1.out; exact IntWalk.i64_in _ (by omega)
      have k2 : IntKind.i64.wrap (y.tdiv (A : Int)) = qy := by rw [E2.out]; have := B2.out; exact IntWalk.i64_in _ (by omega)
      go_wp2_with fail
      refine wp_region_planS (KeepB wr w.heap.size []) (.take 0 (.take 0 (.take 0 (.take 0 (.take 0 (.take 0 (.take 0 (.only 0 (.only 0 .done))))))))) (by kernel_rfl) (by kernel_rfl) KeepB.refl (fun hP => ?_)
      generalize hwd : wr.drew = W4 at hP ⊢
      (refine wsPlan_take rfl (fun K hK => ?_); replace hK := Lib.hid hK; go_simp; first | (refine hK.out _ ?_; clear hK K) | (apply Exists.intro; refine ⟨fun w' hw => ?_, hK.out _ ?_⟩; (first | with_reducible exact rfl | (go_simp; exact rfl)); clear hK K))
      (refine wsPlan_take rfl (fun K hK => ?_); replace hK := Lib.hid hK; go_simp; first | (refine hK.out _ ?_; clear hK K) | (apply Exists.intro; refine ⟨fun w' hw => ?_, hK.out _ ?_⟩; (first | with_reducible exact rfl | (go_simp; exact rfl)); clear hK K))
      (refine wsPlan_take rfl (fun K hK => ?_); replace hK := Lib.hid hK; go_simp; first | (refine hK.out _ ?_; clear hK K) | (apply Exists.intro; refine ⟨fun w' hw => ?_, hK.out _ ?_⟩; (first | with_reducible exact rfl | (go_simp; exact rfl)); clear hK K))
      (refine wsPlan_take rfl (fun K hK => ?_); replace hK := Lib.hid hK; go_simp; first | (refine hK.out _ ?_; clear hK K) | (apply Exists.intro; refine ⟨fun w' hw => ?_, hK.out _ ?_⟩; (first | with_reducible exact rfl | (go_simp; exact rfl)); clear hK K))
      (refine wsPlan_take rfl (fun K hK => ?_); replace hK := Lib.hid hK; go_simp; first | (refine hK.out _ ?_; clear hK K) | (apply Exists.intro; refine ⟨fun w' hw => ?_, hK.out _ ?_⟩; (first | with_reducible exact rfl | (go_simp; exact rfl)); clear hK K))
      (refine wsPlan_take rfl (fun K hK => ?_); replace hK := Lib.hid hK; go_simp; first | (refine hK.out _ ?_; clear hK K) | (apply Exists.intro; refine ⟨fun w' hw => ?_, hK.out _ ?_⟩; (first | with_reducible exact rfl | (go_simp; exact rfl)); clear hK K))
      (refine wsPlan_take rfl (fun K hK => ?_); replace hK := Lib.hid hK; go_simp; first | (refine hK.out _ ?_; clear hK K) | (apply Exists.intro; refine ⟨fun w' hw => ?_, hK.out _ ?_⟩; (first | with_reducible exact rfl | (go_simp; exact rfl)); clear hK K))
      (refine wsPlan_only rfl (fun K hK => ?_); replace hK := Lib.hid hK; go_simp; refine hK.out _ _ (hP.call ((Below.refl _ _).alloc (Nat.le_refl _) _) (HB2.out.trans (hbr.mono HB2.out.size)).size (fun b hb => by simp at hb)) (fun hP => ?_); clear hK K)
      have r5 := block_new W4 (.cells #[.int .i64 0, .int .i64 0] 28)
      have f5 := free_block r5
      have c5 := cell_block r5
      (refine wsPlan_only rfl (fun K hK => ?_); replace hK := Lib.hid hK; go_simp; refine hK.out _ _ ⟨(Below.refl w.heap.size wr).drew.trans (by rw [hwd]; exact (Below.refl _ W4).alloc (by rw [← hwd]; have := HB2.out.size; have := hbr.size; exact (show w.heap.size ≤ wr.heap.size by omega)) _), fun b hb => by simp at hb⟩ (fun hP => ?_); clear hK K)
      refine wsPlan_done ?_
      clear f5 c5 k1 k2
      go_wp2_with fail
      refine wp_named fun W5 hW5 => ?_
      have p5 : W5.heap[W4.heap.size]? = some (.cells #[.int .i64 qx, .int .i64 qy] 28 (0, 0)) := by rw [hW5]; exact block_new W4 _
      have hX5 : Below wr.heap.size wr W5 := by rw [hW5, ← hwd]; exact (Below.refl _ wr).drew.alloc (Nat.le_refl _) _
      have hB5 := Lib.hid (HB2.out.trans ((hbr.trans (hX5.mono hbr.size)).mono HB2.out.size))
      have q4 := block_later (below_step hbr hX5) P3.out
      have hws : W4.heap.size = wr.heap.size := by rw [← hwd]; rfl
      clear hW5 r5 hP hwd
      rw [hws] at p5
      have hsz5 := lt_block p5
      have hsz1 := hbr.size
      have hsz2 := lt_block P3.out
      have F5 : ∀ w', KeepB W5 w.heap.size [wr.heap.size] w' → ∀ i, w'.cell? ⟨wr.heap.size, i, none⟩ = #[.int .i64 qx, .int .i64 qy][i]? := fun w' hw i => cell_block (hw.at (by simp) p5) i
      have q5 : W5.drew.heap[w.heap.size + 2]? = _ := q4
      have f4 := free_block q5
      have c4 := cell_block q5
      have k1 : IntKind.i64.wrap (-qx) = -qx := by have := B1.out; exact IntWalk.i64_in _ (by omega)
      have k2 : IntKind.i64.wrap (-qy) = -qy := by have := B2.out; exact IntWalk.i64_in _ (by omega)
      have Q5 := Lib.hid q5
      clear p5 q4 q5
      refine wp_region_planS (KeepB W5 w.heap.size [wr.heap.size]) (.take 0 (.take 0 (.take 0 (.take 0 (.take 0 (.take 0 (.take 0 (.take 0 (.take 0 (.take 0 (.take 0 (.take 0 (.take 0 (.only 0 (.take 0 .done))))))))))))))) (by kernel_rfl) (by kernel_rfl) KeepB.refl (fun hP => ?_)
      generalize hwd : W5.drew = W6 at hP f4 c4 Q5 ⊢
      clear hwd
      (refine wsPlan_take rfl (fun K hK => ?_); replace hK := Lib.hid hK; go_simp; first | (refine hK.out _ ?_; clear hK K) | (apply Exists.intro; refine ⟨fun w' hw => ?_, hK.out _ ?_⟩; (first | with_reducible exact rfl | (have f5 := F5 w' hw; go_simp; exact rfl)); clear hK K))
      (refine wsPlan_take rfl (fun K hK => ?_); replace hK := Lib.hid hK; go_simp; first | (refine hK.out _ ?_; clear hK K) | (apply Exists.intro; refine ⟨fun w' hw => ?_, hK.out _ ?_⟩; (first | with_reducible exact rfl | (have f5 := F5 w' hw; go_simp; exact rfl)); clear hK K))
      (refine wsPlan_take rfl (fun K hK => ?_); replace hK := Lib.hid hK; go_simp; first | (refine hK.out _ ?_; clear hK K) | (apply Exists.intro; refine ⟨fun w' hw => ?_, hK.out _ ?_⟩; (first | with_reducible exact rfl | (have f5 := F5 w' hw; go_simp; exact rfl)); clear hK K))
      (refine wsPlan_take rfl (fun K hK => ?_); replace hK := Lib.hid hK; go_simp; first | (refine hK.out _ ?_; clear hK K) | (apply Exists.intro; refine ⟨fun w' hw => ?_, hK.out _ ?_⟩; (first | with_reducible exact rfl | (have f5 := F5 w' hw; go_simp; exact rfl)); clear hK K))
      (refine wsPlan_take rfl (fun K hK => ?_); replace hK := Lib.hid hK; go_simp; first | (refine hK.out _ ?_; clear hK K) | (apply Exists.intro; refine ⟨fun w' hw => ?_, hK.out _ ?_⟩; (first | with_reducible exact rfl | (have f5 := F5 w' hw; go_simp; exact rfl)); clear hK K))
      (refine wsPlan_take rfl (fun K hK => ?_); replace hK := Lib.hid hK; go_simp; first | (refine hK.out _ ?_; clear hK K) | (apply Exists.intro; refine ⟨fun w' hw => ?_, hK.out _ ?_⟩; (first | with_reducible exact rfl | (have f5 := F5 w' hw; go_simp; exact rfl)); clear hK K))
      (refine wsPlan_take rfl (fun K hK => ?_); replace hK := Lib.hid hK; go_simp; first | (refine hK.out _ ?_; clear hK K) | (apply Exists.intro; refine ⟨fun w' hw => ?_, hK.out _ ?_⟩; (first | with_reducible exact rfl | (have f5 := F5 w' hw; go_simp; exact rfl)); clear hK K))
      (refine wsPlan_take rfl (fun K hK => ?_); replace hK := Lib.hid hK; go_simp; first | (refine hK.out _ ?_; clear hK K) | (apply Exists.intro; refine ⟨fun w' hw => ?_, hK.out _ ?_⟩; (first | with_reducible exact rfl | (have f5 := F5 w' hw; go_simp; exact rfl)); clear hK K))
      (refine wsPlan_take rfl (fun K hK => ?_); replace hK := Lib.hid hK; go_simp; first | (refine hK.out _ ?_; clear hK K) | (apply Exists.intro; refine ⟨fun w' hw => ?_, hK.out _ ?_⟩; (first | with_reducible exact rfl | (have f5 := F5 w' hw; go_simp; exact rfl)); clear hK K))
      (refine wsPlan_take rfl (fun K hK => ?_); replace hK := Lib.hid hK; go_simp; first | (refine hK.out _ ?_; clear hK K) | (apply Exists.intro; refine ⟨fun w' hw => ?_, hK.out _ ?_⟩; (first | with_reducible exact rfl | (have f5 := F5 w' hw; go_simp; exact rfl)); clear hK K))
      (refine wsPlan_take rfl (fun K hK => ?_); replace hK := Lib.hid hK; go_simp; first | (refine hK.out _ ?_; clear hK K) | (apply Exists.intro; refine ⟨fun w' hw => ?_, hK.out _ ?_⟩; (first | with_reducible exact rfl | (have f5 := F5 w' hw; go_simp; exact rfl)); clear hK K))
      (refine wsPlan_take rfl (fun K hK => ?_); replace hK := Lib.hid hK; go_simp; first | (refine hK.out _ ?_; clear hK K) | (apply Exists.intro; refine ⟨fun w' hw => ?_, hK.out _ ?_⟩; (first | with_reducible exact rfl | (have f5 := F5 w' hw; go_simp; exact rfl)); clear hK K))
      (refine wsPlan_take rfl (fun K hK => ?_); replace hK := Lib.hid hK; go_simp; first | (refine hK.out _ ?_; clear hK K) | (apply Exists.intro; refine ⟨fun w' hw => ?_, hK.out _ ?_⟩; (first | with_reducible exact rfl | (have f5 := F5 w' hw; go_simp; exact rfl)); clear hK K))
      (refine wsPlan_only rfl (fun K hK => ?_); replace hK := Lib.hid hK; go_simp; refine hK.out _ _ (by exact (hP.setCell (by omega) (by simp <;> omega) _).setCell (by omega) (by simp <;> omega) _) (fun hP => ?_); clear hK K)
      (refine wsPlan_take rfl (fun K hK => ?_); replace hK := Lib.hid hK; go_simp; first | (refine hK.out _ ?_; clear hK K) | (apply Exists.intro; refine ⟨fun w' hw => ?_, hK.out _ ?_⟩; (first | with_reducible exact rfl | (have f5 := F5 w' hw; go_simp; exact rfl)); clear hK K))
      refine wsPlan_done ?_
      have c9 := cell_block (block_set (i := 1) (block_set (i := 0) Q5.out (.int .i64 qx)) (.int .i64 qy))
      clear F5 f4 c4
      go_wp2_with fail
      exact bodyPost_ret (v := .tuple #[.agg #[.int .i64 qx, .int .i64 qy], .bool (decide (max (max (max qx (-qx)) qy) (-qy) ≤ 1000000))]) (by simp [results, Tryz.results254, go_sem, c9]) rfl ⟨by rw [HU.out], hB5.out.trans hP.1⟩
    · have hbn : (B : Int) ≠ 0 := by omega
      have hbm : (B : Int) ≠ -1 := by omega
      obtain ⟨M, hM⟩ : ∃ M, A % B = M := ⟨_, rfl⟩
      have hMB : M < B := by rw [← hM]; exact Nat.mod_lt _ (by omega)
      have k1 : (A : Int).tmod (B : Int) = (M : Int) := by rw [← Int.ofNat_tmod, hM]
      have hgcd2 : Hid (Nat.gcd B M = g) := Lib.hid (by rw [← hM, Nat.gcd_comm, ← Nat.gcd_rec, Nat.gcd_comm]; exact hgcd)
      clear hgcd hM
      go_wp2_with fail
      refine wp_region_planS (KeepB wr wr.heap.size []) (.take 0 (.take 0 (.take 0 (.take 0 (.take 0 (.take 0 (.done))))))) (by kernel_rfl) (by kernel_rfl) KeepB.refl (fun hP => ?_)
      (refine wsPlan_take rfl (fun K hK => ?_); replace hK := Lib.hid hK; go_simp; first | (refine hK.out _ ?_; clear hK K) | (apply Exists.intro; refine ⟨fun w' hw => ?_, hK.out _ ?_⟩; (first | with_reducible exact rfl | (go_simp; exact rfl)); clear hK K))
      (refine wsPlan_take rfl (fun K hK => ?_); replace hK := Lib.hid hK; go_simp; first | (refine hK.out _ ?_; clear hK K) | (apply Exists.intro; refine ⟨fun w' hw => ?_, hK.out _ ?_⟩; (first | with_reducible exact rfl | (go_simp; exact rfl)); clear hK K))
      (refine wsPlan_take rfl (fun K hK => ?_); replace hK := Lib.hid hK; go_simp; first | (refine hK.out _ ?_; clear hK K) | (apply Exists.intro; refine ⟨fun w' hw => ?_, hK.out _ ?_⟩; (first | with_reducible exact rfl | (go_simp; exact rfl)); clear hK K))
      (refine wsPlan_take rfl (fun K hK => ?_); replace hK := Lib.hid hK; go_simp; first | (refine hK.out _ ?_; clear hK K) | (apply Exists.intro; refine ⟨fun w' hw => ?_, hK.out _ ?_⟩; (first | with_reducible exact rfl | (go_simp; exact rfl)); clear hK K))
      (refine wsPlan_take rfl (fun K hK => ?_); replace hK := Lib.hid hK; go_simp; first | (refine hK.out _ ?_; clear hK K) | (apply Exists.intro; refine ⟨fun w' hw => ?_, hK.out _ ?_⟩; (first | with_reducible exact rfl | (go_simp; exact rfl)); clear hK K))
      (refine wsPlan_take rfl (fun K hK => ?_); replace hK := Lib.hid hK; go_simp; first | (refine hK.out _ ?_; clear hK K) | (apply Exists.intro; refine ⟨fun w' hw => ?_, hK.out _ ?_⟩; (first | with_reducible exact rfl | (go_simp; exact rfl)); clear hK K))
      refine wsPlan_done ?_
      go_wp2_with fail
      go_roundw
      case rel => exact ⟨B, M, rfl, rfl, hgcd2.out, hBB, by omega, hbr.drew⟩
      case measure => simp [Go.RowKit.intOf]; omega
end Go.Proofs.YtdmegkkifiahdaaGreat
/- The walk of datum.Fits. -/
namespace Go.Proofs.YtdmegkkifiahdaaGreat
open Go.RowKit Go.Shelf
attribute [local go_sem] bqOp bqAll bqUpon sqOp sqAll sqUpon ssAll ssOp
attribute [local irreducible] wpQuiet wpBQ wpPlan wsPlan
attribute [local go_sem high] run_maxW run_minW run_max4W
set_option linter.unusedVariables false
instance (m : Dat) (p q : Pt) : Decidable (FitsD m p q) := by unfold FitsD; exact inferInstance
end Go.Proofs.YtdmegkkifiahdaaGreat
/- Lists of places and of sectors that a call owns. -/
namespace Go.Proofs.YtdmegkkifiahdaaGreat
open Go.RowKit
set_option linter.unusedVariables false
def pCells (p : Int × Int) : List Value := [.int .i64 p.1, .int .i64 p.2]
theorem pCells_len (p : Int × Int) : (pCells p).length = 2 := rfl
theorem pts_one (l : List (Int × Int)) : ∀ u ∈ l.flatMap pCells, u.oneCell' = true := by
  intro u hu
  rw [List.mem_flatMap] at hu
  obtain ⟨x, _, hu⟩ := hu
  simp only [pCells, List.mem_cons, List.not_mem_nil, or_false] at hu
  rcases hu with rfl | rfl <;> rfl
theorem info_pt : (Tryz.prog.info? 28).map (fun i => (i.zero, i.size, i.bytes)) = some (some (.agg #[.int .i64 0, .int .i64 0]), 2, 16) := by kernel_rfl
/-- The slice v is the call's own list of places l. -/
def OwnPt (base : Nat) (w : World) (v : Value) (l : List (Int × Int)) : Prop := OwnT pCells 2 28 base w v l
theorem OwnPt.form {base : Nat} {w : World} {v : Value} {l : List (Int × Int)} (h : OwnPt base w v l) : ∃ ad c, v = .slice ad l.length c := OwnT.form h
theorem OwnPt.keep {base : Nat} {w w' : World} {v : Value} {l : List (Int × Int)} (h : OwnPt base w v l) (hb : Below w.heap.size w w') : OwnPt base w' v l := own_keep h hb
theorem OwnPt.nil (base : Nat) (w : World) : OwnPt base w (.slice none 0 0) [] := own_nil _ _ _ _
theorem OwnPt.pts {base : Nat} {w : World} {v : Value} {l : List (Int × Int)} (h : OwnPt base w v l) (hl : l.length ≤ 9223372036854775807) : PtsAt w v l := by
  refine ⟨owns_rows hl h fun i hi j hj => ?_, own_cap h⟩
  rw [flat_get pCells 2 pCells_len (0, 0) l i j hi hj]
  match j, hj with
  | 0, _ => rfl
  | 1, _ => rfl
/-- The list without its last item. -/
theorem OwnT.cut {α : Type} {f : α → List Value} {k : Nat} {e : TypeId} (hk : ∀ x, (f x).length = k) {base : Nat} {w : World} {ad : Option Addr} {n c : Nat} {l : List α} {x : α} (h : OwnT f k e base w (.slice ad n c) (l ++ [x])) (hn : l.length + 1 = n) : OwnT f k e base w (.slice ad (n - 1) c) l := by
  subst hn
  have e1 : (l ++ [x]).length = l.length + 1 := by simp
  unfold OwnT at h ⊢
  refine ⟨flat_len hk l, .inr ?_⟩
  rcases h.2 with ⟨h1, h2⟩ | ⟨g, cap, cur, h1, hg, hh, hnc, hcm, hcs, ht⟩
  · rw [e1] at h2
    omega
  · rw [e1] at h1 hnc ht
    cases h1
    refine ⟨g, c, cur, by simp, hg, hh, by omega, hcm, hcs, ?_⟩
    have := congrArg (List.take (l.length * k)) ht
    rw [List.take_take, List.flatMap_append, Nat.min_eq_left (Nat.mul_le_mul_right k (by omega)), List.take_left' (flat_len hk l)] at this
    exact this
theorem OwnPt.cut {base : Nat} {w : World} {ad : Option Addr} {n c : Nat} {l : List (Int × Int)} {x : Int × Int} (h : OwnPt base w (.slice ad n c) (l ++ [x])) (hn : l.length + 1 = n) : OwnPt base w (.slice ad (n - 1) c) l := OwnT.cut pCells_len h hn
def sCells (s : Sec) : List Value := [.int .i64 s.fx, .int .i64 s.fy, .int .i64 s.tx, .int .i64 s.ty, .int .i64 s.col, .int .i64 s.rng]
theorem sCells_len (s : Sec) : (sCells s).length = 6 := rfl
theorem secs_one (l : List Sec) : ∀ u ∈ l.flatMap sCells, u.oneCell' = true := by
  intro u hu
  rw [List.mem_flatMap] at hu
  obtain ⟨x, _, hu⟩ := hu
  simp only [sCells, List.mem_cons, List.not_mem_nil, or_false] at hu
  rcases hu with rfl | rfl | rfl | rfl | rfl | rfl <;> rfl
theorem info_sec : (Tryz.prog.info? 151).map (fun i => (i.zero, i.size, i.bytes)) = some (some (.agg #[.int .i64 0, .int .i64 0, .int .i64 0, .int .i64 0, .int .i64 0, .int .i64 0]), 6, 48) := by kernel_rfl
def OwnSc (base : Nat) (w : World) (v : Value) (l : List Sec) : Prop := OwnT sCells 6 151 base w v l
theorem OwnSc.form {base : Nat} {w : World} {v : Value} {l : List Sec} (h : OwnSc base w v l) : ∃ ad c, v = .slice ad l.length c := OwnT.form h
theorem OwnSc.keep {base : Nat} {w w' : World} {v : Value} {l : List Sec} (h : OwnSc base w v l) (hb : Below w.heap.size w w') : OwnSc base w' v l := own_keep h hb
theorem OwnSc.nil (base : Nat) (w : World) : OwnSc base w (.slice none 0 0) [] := own_nil _ _ _ _
theorem OwnSc.secs {base : Nat} {w : World} {v : Value} {l : List Sec} (h : OwnSc base w v l) (hl : l.length ≤ 9223372036854775807) : SecsAt w v l := by
  refine ⟨owns_rows hl h fun i hi j hj => ?_, own_cap h⟩
  rw [flat_get sCells 6 sCells_len ⟨0, 0, 0, 0, 0, 0⟩ l i j hi hj]
  match j, hj with
  | 0, _ => rfl
  | 1, _ => rfl
  | 2, _ => rfl
  | 3, _ => rfl
  | 4, _ => rfl
  | 5, _ => rfl
theorem grownBy_of_below' {w w' : World} (h : Below w.heap.size w w') : w.grownBy w' none := ⟨h.os, h.tape, h.output, h.size, fun i hi _ => h.block i hi⟩
theorem own_set {α : Type} {f : α → List Value} {k : Nat} {e : TypeId} {base g i : Nat} {w : World} {v : Value} {l : List α} (h : OwnT f k e base w v l) (hne : some g ≠ v.ownBlock) (u : Value) : OwnT f k e base (w.setCell ⟨g, i, none⟩ u) v l := by
  refine ⟨h.1, ?_⟩
  rcases h.2 with h | ⟨b, cap, cur, rfl, hg, hh, hr⟩
  · exact .inl h
  · exact .inr ⟨b, cap, cur, rfl, hg, (Below.heap_setCell _ _ _ _ (fun e => hne (congrArg some (show g = b from e.symm)))).trans hh, hr⟩
/-- append to an own list, in a fence. -/
theorem wpListIn_appT {α : Type} {f : α → List Value} {k : Nat} {e : TypeId} (hkf : ∀ x, (f x).length = k) (hk0 : 0 < k) {t : TypeId} {z : Value} {bytes : Nat} (ht : Tryz.prog.underlying t = some (.slice e)) (hi : (Tryz.prog.info? e).map (fun i => (i.zero, i.size, i.bytes)) = some (some z, k, bytes)) (hzs : z.cells.size = k)
    {F : Fence} {nn : Nat} {ops : Array Oper} {rest : List Oper} {o : Oper} {a : Act} {Q : Exit → Act → World → Prop} {w : World} (hgd : o.guard = none) (s x : Operand)
    (ho : o.op = .call { callee := .builtin .append, args := #[s, x], argTypes := #[t, t] }) (base : Nat) (v : Value) (l m : List α) (hs : a.eval s = v) (hown : OwnT f k e base w v l)
    (ad : Option Addr) (n c : Nat) (hx : a.eval x = .slice ad n c) (hn : m.length = n) (hX : SrcAt f w ad m) (hone : ∀ u ∈ m.flatMap f, u.oneCell' = true) {N : Nat} (hN : l.length + n = N) (hsz : N ≤ maxLen) (hby : N * bytes ≤ 140737488355328) (hbase : base ≤ w.heap.size)
    (h : ∀ ad' c' w', OwnT f k e base w' (.slice ad' N c') (l ++ m) → w.grownBy w' v.ownBlock → Below base w w' → wpListIn F nn Tryz.prog ops Q rest (a.put o.dst (.slice ad' N c')) w') : wpListIn F nn Tryz.prog ops Q (o :: rest) a w := by
  subst hN
  obtain ⟨ad', c', w', hr, h2, h3, h4⟩ := run_appT hkf hk0 ht hi hzs base w o.type v l m hown ad n c hn hX hone hsz hby hbase
  refine wpListIn_plain hgd fun K hK => ?_
  refine ⟨fun f hf => by simp [Oper.about, ho, resolve, Target.leads, Sem.run_pure] at hf, ?_⟩
  rw [Oper.semAt_eq _ _ _ (by intro c; rw [ho]; simp)]
  unfold execOp
  simp only [ho, resolve, invoke, builtin, Sem.run_bind, Sem.run_pure, Result.andThen_ok, List.map_toArray, List.map_cons, List.map_nil, hs, hx, hr]
  exact hK _ _ (h ad' c' w' h2 h3 h4)
/-- The block of an own list holds cells. -/
theorem OwnT.cells {α : Type} {f : α → List Value} {k : Nat} {e : TypeId} {base : Nat} {w : World} {v : Value} {l : List α} (h : OwnT f k e base w v l) : ∀ j, v.ownBlock = some j → ∃ cs, w.heap[j]? = some (.cells cs e (0, 0)) ∧ base ≤ j := by
  intro j hj
  rcases h.2 with ⟨rfl, h0⟩ | ⟨g, cap, cur, rfl, hg, hh, _⟩
  · simp [Value.ownBlock] at hj
  · simp only [Value.ownBlock, Option.some.injEq] at hj
    subst hj
    exact ⟨cur, hh, hg⟩
theorem OwnT.keeps {α : Type} {f : α → List Value} {k : Nat} {e : TypeId} {base B : Nat} {w w' : World} {v : Value} {l : List α} (h : OwnT f k e base w v l) (hg : w.grownBy w' v.ownBlock) : KeepsFrom B w w' :=
  (KeepsOthers.of_grownBy hg fun j o hj ho => by
    obtain ⟨cs, h1, _⟩ := h.cells j hj
    rw [ho] at h1
    cases h1
    rfl).from B
theorem ownT_own {β α : Type} {f : α → List Value} {k : Nat} {e : TypeId} {base B : Nat} {v : β → Value} {l : β → List α} : OwnFrom B (fun (s : β) W => OwnT f k e base W (v s) (l s)) := fun s X Y row hs hg hr =>
  own_other hs hg fun j hj e => by
    obtain ⟨cs, h1, _⟩ := hs.cells j hj
    obtain ⟨_, o, h2, h3⟩ := hr j e
    rw [h1] at h2
    cases h2
    cases h3
end Go.Proofs.YtdmegkkifiahdaaGreat
/- Parts of features that lie apart from the rows of features and operations. -/
namespace Go.Proofs.YtdmegkkifiahdaaGreat
open Go.RowKit
set_option linter.unusedVariables false
theorem OwnT.mono {α : Type} {f : α → List Value} {k : Nat} {e : TypeId} {base base' : Nat} {w : World} {v : Value} {l : List α} (h : OwnT f k e base w v l) (hb : base' ≤ base) : OwnT f k e base' w v l := by
  refine ⟨h.1, ?_⟩
  rcases h.2 with h | ⟨g, cap, cur, rfl, hg, hr⟩
  · exact .inl h
  · exact .inr ⟨g, cap, cur, rfl, Nat.le_trans hb hg, hr⟩
/-- What lies below lo, and what is a row of places or of sectors, stays. -/
def KeepPS (lo : Nat) (w W : World) : Prop := ∀ (j : Nat) (o : Obj), w.heap[j]? = some o → (j < lo ∨ ∃ (cs : Array Value) (T : TypeId) (mm : Nat × Nat), o = .cells cs T mm ∧ (T = 28 ∨ T = 151)) → W.heap[j]? = some o
theorem KeepPS.refl (lo : Nat) (w : World) : KeepPS lo w w := fun j o h _ => h
theorem KeepPS.trans {lo : Nat} {a b c : World} (h : KeepPS lo a b) (k : KeepPS lo b c) : KeepPS lo a c := fun j o hj hp => k j o (h j o hj hp) hp
theorem KeepPS.of_below {lo : Nat} {w W : World} (h : Below w.heap.size w W) : KeepPS lo w W := fun j o hj _ => (h.block j (Array.getElem?_eq_some_iff.1 hj).1).trans hj
theorem KeepPS.set {lo g i : Nat} {w : World} {cs : Array Value} {T : TypeId} {mm : Nat × Nat} (hg : lo ≤ g) (hb : w.heap[g]? = some (.cells cs T mm)) (h1 : T ≠ 28) (h2 : T ≠ 151) (v : Value) : KeepPS lo w (w.setCell ⟨g, i, none⟩ v) := fun j o hj hp => by
  have hne : j ≠ g := fun e => by
    subst e
    rw [hb] at hj
    cases hj
    rcases hp with hp | ⟨cs', T', mm', e, ht⟩
    · omega
    · cases e
      rcases ht with ht | ht
      · exact h1 ht
      · exact h2 ht
  exact (Below.heap_setCell _ _ _ _ hne).trans hj
/-- A row that was written is of another kind. -/
theorem KeepPS.grown {lo : Nat} {w W : World} {α : Type} {f : α → List Value} {k : Nat} {e : TypeId} {base : Nat} {v : Value} {l : List α} (h : OwnT f k e base w v l) (hg : w.grownBy W v.ownBlock) (hb : lo ≤ base) (h1 : e ≠ 28) (h2 : e ≠ 151) : KeepPS lo w W := fun j o hj hp => by
  refine (hg.block j (Array.getElem?_eq_some_iff.1 hj).1 (fun ee => ?_)).trans hj
  obtain ⟨cs, hcs, hbs⟩ := h.cells j ee.symm
  rw [hcs] at hj
  cases hj
  rcases hp with hp | ⟨cs', T', mm', e2, ht⟩
  · omega
  · cases e2
    rcases ht with ht | ht
    · exact h1 ht
    · exact h2 ht
theorem Lists.kept {k n : Nat} {w W : World} {v : Value} {X : Nat → Nat → Int} (h : Lists k w v n X) (hk : ∀ (j : Nat) (o : Obj), w.heap[j]? = some o → W.heap[j]? = some o) : Lists k W v n X := by
  refine ⟨?_, h.cap⟩
  obtain ⟨ad, c, hv, hn, hc⟩ := h.rows
  refine ⟨ad, c, hv, hn, fun i hi => ?_⟩
  obtain ⟨g, o, hg, hc⟩ := hc i hi
  refine ⟨g, o, hg, fun j hj => ?_⟩
  obtain ⟨cs, e, fr, h1, h2⟩ := Sort.cells_of_cell? (hc j hj)
  rw [cell_block (hk _ _ h1), h2]
/-- The parts of a feature, wherever rows of features and operations are written from lo on. -/
def PartsSep (lo : Nat) (w : World) (f : Feat) (va vs : Value) : Prop := ∀ W, KeepPS lo w W → PartsAt W f va vs
theorem PartsSep.parts {lo : Nat} {w : World} {f : Feat} {va vs : Value} (h : PartsSep lo w f va vs) : PartsAt w f va vs := h w (KeepPS.refl lo w)
theorem PartsSep.later {lo : Nat} {w W : World} {f : Feat} {va vs : Value} (h : PartsSep lo w f va vs) (hk : KeepPS lo w W) : PartsSep lo W f va vs := fun W2 h2 => h W2 (hk.trans h2)
theorem PartsSep.zero (lo : Nat) (w : World) : PartsSep lo w noFeat (.slice none 0 0) (.slice none 0 0) := fun W _ => PartsAt.zero W
theorem kept_low {w0 w W : World} {j : Nat} {o : Obj} (hb : Below w0.heap.size w0 w) (hk : KeepPS w0.heap.size w W) (h : w0.heap[j]? = some o) : W.heap[j]? = some o :=
  have hj := (Array.getElem?_eq_some_iff.1 h).1
  hk j o ((hb.block j hj).trans h) (.inl hj)
/-- Parts of a world before. -/
theorem PartsSep.low {w0 w : World} {f : Feat} {va vs : Value} (h : PartsAt w0 f va vs) (hb : Below w0.heap.size w0 w) : PartsSep w0.heap.size w f va vs := fun W hk =>
  ⟨by have h1 := h.1; unfold PtsAt at h1 ⊢; exact h1.kept fun j o hj => kept_low hb hk hj, by have h1 := h.2; unfold SecsAt at h1 ⊢; exact h1.kept fun j o hj => kept_low hb hk hj⟩
theorem OwnPt.sep {lo base : Nat} {w W : World} {v : Value} {l : List (Int × Int)} (h : OwnPt base w v l) (hk : KeepPS lo w W) : OwnPt base W v l := by
  refine ⟨h.1, ?_⟩
  rcases h.2 with h | ⟨g, cap, cur, rfl, hg, hh, hr⟩
  · exact .inl h
  · exact .inr ⟨g, cap, cur, rfl, hg, hk _ _ hh (.inr ⟨_, _, _, rfl, .inl rfl⟩), hr⟩
theorem OwnSc.sep {lo base : Nat} {w W : World} {v : Value} {l : List Sec} (h : OwnSc base w v l) (hk : KeepPS lo w W) : OwnSc base W v l := by
  refine ⟨h.1, ?_⟩
  rcases h.2 with h | ⟨g, cap, cur, rfl, hg, hh, hr⟩
  · exact .inl h
  · exact .inr ⟨g, cap, cur, rfl, hg, hk _ _ hh (.inr ⟨_, _, _, rfl, .inr rfl⟩), hr⟩
end Go.Proofs.YtdmegkkifiahdaaGreat
/- The walks of package transport: sectors as they are carried. -/
namespace Go.Proofs.YtdmegkkifiahdaaGreat
open Go.RowKit Go.Shelf
attribute [local go_sem] bqOp bqAll bqUpon sqOp sqAll sqUpon ssAll ssOp
attribute [local irreducible] wpQuiet wpBQ wpPlan wsPlan
attribute [local go_sem high] run_maxW run_minW run_max4W
set_option linter.unusedVariables false
def okS (m : Dat) (s : Sec) : Bool := (dirV m s.fx s.fy).2 && (dirV m s.tx s.ty).2
def newS (m : Dat) (s : Sec) : Sec := ⟨(dirV m s.fx s.fy).1.1, (dirV m s.fx s.fy).1.2, (dirV m s.tx s.ty).1.1, (dirV m s.tx s.ty).1.2, s.col, rangeD m s.rng⟩
def outS (m : Dat) (l : List Sec) : List Sec := (l.map (newS m)).filter fun s => decide (0 < s.rng)
theorem secsD_of (m : Dat) : ∀ l : List Sec, secsD m l = if l.all (okS m) = true then some (outS m l) else none
  | [] => rfl
  | s :: l => by
    unfold secsD
    rw [secsD_of m l, dirD_of, dirD_of, List.all_cons]
    unfold okS
    cases h1 : (dirV m s.fx s.fy).2
    · simp
    cases h2 : (dirV m s.tx s.ty).2
    · simp
    cases h3 : l.all (okS m)
    · unfold okS at h3
      simp [h3]
    · have h3' := h3
      unfold okS at h3
      simp only [h3, Bool.and_self, if_true]
      unfold outS
      rw [List.map_cons, List.filter_cons]
      unfold newS
      simp only [decide_eq_true_eq]
/-- What sectors answers. -/
def secsR (m : Dat) (l : List Sec) : List Sec × Bool := match secsD m l with | some r => (r, true) | none => ([], false)
theorem secsR_yes {m : Dat} {l : List Sec} (h : l.all (okS m) = true) : secsR m l = (outS m l, true) := by
  unfold secsR
  rw [secsD_of, if_pos h]
theorem secsR_no {m : Dat} {l : List Sec} (h : l.all (okS m) = false) : secsR m l = ([], false) := by
  unfold secsR
  rw [secsD_of, if_neg (by simp [h])]
def noSec : Sec := ⟨0, 0, 0, 0, 0, 0⟩
/-- What is asked of a sector. -/
def SecIn (s : Sec) : Prop := DirOk s.fx s.fy ∧ DirOk s.tx s.ty ∧ 0 ≤ s.rng ∧ s.rng ≤ 3000000
theorem out_snoc (m : Dat) {l : List Sec} {k : Nat} (h : k < l.length) : outS m (l.take (k + 1)) = outS m (l.take k) ++ (if 0 < rangeD m (l.getD k noSec).rng then [newS m (l.getD k noSec)] else []) := by
  have e : l.take (k + 1) = l.take k ++ [l.getD k noSec] := by
    rw [List.take_succ_eq_append_getElem h, List.getD_eq_getElem?_getD, List.getElem?_eq_getElem h]
    rfl
  unfold outS
  rw [e, List.map_append, List.filter_append]
  congr 1
  rw [List.map_cons, List.map_nil, List.filter_cons, List.filter_nil]
  simp only [decide_eq_true_eq]
  rfl
theorem all_snoc (m : Dat) {l : List Sec} {k : Nat} (h : k < l.length) : (l.take (k + 1)).all (okS m) = ((l.take k).all (okS m) && okS m (l.getD k noSec)) := by
  have e : l.take (k + 1) = l.take k ++ [l.getD k noSec] := by
    rw [List.take_succ_eq_append_getElem h, List.getD_eq_getElem?_getD, List.getElem?_eq_getElem h]
    rfl
  rw [e, List.all_append]
  simp
theorem all_no (m : Dat) {l : List Sec} {k : Nat} (h : k < l.length) (hb : okS m (l.getD k noSec) = false) : l.all (okS m) = false := by
  rw [Bool.eq_false_iff]
  intro ha
  rw [List.all_eq_true] at ha
  have := ha _ (getD_memD h noSec)
  rw [hb] at this
  cases this
theorem out_len (m : Dat) (l : List Sec) : (outS m l).length ≤ l.length := by
  unfold outS
  exact Nat.le_trans (List.length_filter_le _ _) (by simp)
/-- What the call gives. -/
def SecsGive (r : List Sec) (u : Bool) (w : World) (e : Ending) (w' : World) : Prop :=
  ∃ (ad : Option Addr) (n c : Nat), r.length = n ∧ e = .returned (.tuple #[.slice ad n c, .bool u]) ∧ OwnSc w.heap.size w' (.slice ad n c) r ∧ Below w.heap.size w w'
set_option maxRecDepth 20000 in
set_option maxHeartbeats 4000000 in
theorem trsectors_any (m : Dat) (l : List Sec) (v0 : Value) (w : World) (hm : DatOk m) (h : SecsAt w v0 l) (hl : ∀ i, i < l.length → SecIn (l.getD i noSec)) (h12 : l.length ≤ 12) {r : List Sec} {u : Bool} (hr : secsR m l = (r, u)) :
    Calls Tryz.prog 164 #[carV m, v0] w (SecsGive r u w) := by
  obtain ⟨ad, c, rfl, k1, hn1, _⟩ := Lists.form h
  have H := Lib.hid k1
  have HM := Lib.hid hm
  have HL := Lib.hid hl
  have HR := Lib.hid hr
  obtain ⟨sl1, sl2⟩ := slack_bd hm
  obtain ⟨sh1, sh2⟩ := shrink_bd hm
  have RG : Hid (∀ x, rangeD m x = min 3000000 (x * shrinkD m / 1000000 - slackD m)) := Lib.hid (fun _ => rfl)
  obtain ⟨n, hln⟩ : ∃ n, l.length = n := ⟨_, rfl⟩
  rw [hln] at H hn1 h12
  rw [hln]
  have HN := Lib.hid hln
  clear h k1 hl hm hr hln
  go_enter Tryz.func164, Tryz.ntmps164
  go_wp2_with fail
  refine wp_named fun W hW => ?_
  obtain ⟨p1, hB⟩ := box1 hW
  clear hW
  have P1 := Lib.hid p1
  have HB := Lib.hid hB
  clear p1 hB
  go_loopw [6, 13] (fun t i wr => ∃ (k : Nat) (ad' : Option Addr) (c' no : Nat), k ≤ n ∧ i = .int .i64 k ∧ (outS m (l.take k)).length = no ∧ t = .slice ad' no c' ∧ (l.take k).all (okS m) = true ∧ OwnSc W.heap.size wr (.slice ad' no c') (outS m (l.take k)) ∧ Below W.heap.size W wr) (fun _ i _ => n - (Go.RowKit.intOf i).toNat)
  case atStart => exact ⟨0, none, 0, 0, by omega, rfl, rfl, rfl, rfl, OwnSc.nil _ _, Below.refl _ _⟩
  case round =>
    obtain ⟨k, ad', c', no, hk, rfl, hno, rfl, hall, how, hbr⟩ := hrel
    have ALL := Lib.hid hall
    have OW := Lib.hid how
    have NO := Lib.hid hno
    have BR := Lib.hid hbr
    have hno2 : no ≤ 12 := by
      have := out_len m (l.take k)
      rw [hno, List.length_take] at this
      omega
    clear hall how hno
    by_cases hlt : k < n
    rotate_left
    · obtain rfl : k = n := by omega
      have hk2 : l.take k = l := by rw [← HN.out, List.take_length]
      have HE := HR.out.symm.trans (secsR_yes (by rw [← hk2]; exact ALL.out))
      obtain ⟨rfl, rfl⟩ : r = outS m l ∧ u = true := ⟨congrArg Prod.fst HE, congrArg Prod.snd HE⟩
      rw [hk2] at OW NO
      go_wp2_with fail
      go_ret2
      exact ⟨ad', no, c', NO.out, rfl, OwnT.mono OW.out HB.out.size, HB.out.trans (hbr.mono HB.out.size)⟩
    have hlt' : k < l.length := by have := HN.out; omega
    obtain ⟨g, o, rfl, hc⟩ := (H.out.later (HB.out.trans (hbr.mono HB.out.size))).rows.row hlt
    have r0 := hc 0 (by omega)
    have r1 := hc 1 (by omega)
    have r2 := hc 2 (by omega)
    have r3 := hc 3 (by omega)
    have r4 := hc 4 (by omega)
    have r5 := hc 5 (by omega)
    simp only [Nat.add_zero, secX] at r0 r1 r2 r3 r4 r5
    clear hc
    have hin := HL.out k hlt'
    have OS := Lib.hid (out_snoc m hlt')
    have AS := Lib.hid (all_snoc m hlt')
    have AN := Lib.hid (fun hb => secsR_no (all_no m hlt' hb))
    obtain ⟨s, hs⟩ : ∃ s, l.getD k noSec = s := ⟨_, rfl⟩
    rw [hs] at hin OS AS AN
    have es : l.getD k ⟨0, 0, 0, 0, 0, 0⟩ = s := hs
    rw [es] at r0 r1 r2 r3 r4 r5
    clear hs es
    obtain ⟨fx, fy, tx, ty, col, rg⟩ := s
    replace r0 : _ = some (Value.int .i64 fx) := r0
    replace r1 : _ = some (Value.int .i64 fy) := r1
    replace r2 : _ = some (Value.int .i64 tx) := r2
    replace r3 : _ = some (Value.int .i64 ty) := r3
    replace r4 : _ = some (Value.int .i64 col) := r4
    replace r5 : _ = some (Value.int .i64 rg) := r5
    obtain ⟨hin1, hin2, rg1, rg2⟩ := hin
    dsimp only at hin1 hin2 rg1 rg2
    have IN1 := Lib.hid hin1
    have IN2 := Lib.hid hin2
    obtain ⟨⟨⟨ax, ay⟩, v1⟩, hd1⟩ : ∃ q, dirV m fx fy = q := ⟨_, rfl⟩
    obtain ⟨⟨⟨bx, by'⟩, v2⟩, hd2⟩ : ∃ q, dirV m tx ty = q := ⟨_, rfl⟩
    have D1 := Lib.hid hd1
    have D2 := Lib.hid hd2
    have OKS : okS m ⟨fx, fy, tx, ty, col, rg⟩ = (v1 && v2) := by unfold okS; rw [hd1, hd2]
    obtain ⟨R, hR⟩ : ∃ t, rangeD m rg = t := ⟨_, rfl⟩
    have NEW : newS m ⟨fx, fy, tx, ty, col, rg⟩ = ⟨ax, ay, bx, by', col, R⟩ := by unfold newS; rw [hd1, hd2, hR]
    obtain ⟨mm1, mm2⟩ := mul_bd (a := rg) (b := (shrinkD m)) (A := 3000000) (B := 4000000) (by omega) rg2 (by omega) sh2
    have mm0 := mul_nn rg1 sh1
    obtain ⟨q, hq⟩ : ∃ q, (rg * (shrinkD m)).tdiv 1000000 = q := ⟨_, rfl⟩
    have hq2 : rg * (shrinkD m) / 1000000 = q := by rw [← hq, Int.tdiv_eq_ediv_of_nonneg mm0]
    have hq3 : 0 ≤ q ∧ q ≤ 12000000 := by omega
    have hRR : min 3000000 (q - (slackD m)) = R := by rw [← hR, RG.out, hq2]
    rw [OKS] at AS AN
    rw [NEW] at OS
    replace OS : Hid (outS m (l.take (k + 1)) = outS m (l.take k) ++ if 0 < R then [⟨ax, ay, bx, by', col, R⟩] else []) := Lib.hid (by rw [OS.out, hR])
    have HRR := Lib.hid hRR
    have HQ := Lib.hid hq
    obtain ⟨q1, q2⟩ := hq3
    clear hin1 hin2 hd1 hd2 OKS NEW hR hq2 hRR hq
    have c1 := fun ob => cell_block (block_later ((Below.refl wr.heap.size wr).alloc (Nat.le_refl _) ob) (block_later hbr P1.out))
    have hszW := lt_block P1.out
    have hszr := hbr.size
    have hne : w.heap.size ≠ wr.heap.size := by omega
    have hne2 : wr.heap.size ≠ w.heap.size := by omega
    go_wp2_with fail
    refine calls_named fun W1 hW1 => ?_
    obtain ⟨p8, hb1⟩ := box1 hW1
    clear hW1 r0 r1 r2 r3 r4 r5 c1
    (with_reducible refine (trdir_any m _ _ _ HM.out IN1.out D1.out).mono ?_)
    rintro e w2 ⟨rfl, hb2⟩
    have hX2 := below_step hb1 hb2
    have q8 := block_later hb2 p8
    have f8 := free_block q8
    have d8 := cell_block q8
    have Q8 := Lib.hid q8
    have X2 := Lib.hid hX2
    have c1 := cell_block (block_later (below_step hbr hX2) P1.out)
    have l8 := lt_block q8
    clear p8 q8 hb1 hb2 hX2
    go_wp2_with fail
    refine calls_named fun W3 hW3 => ?_
    have p8 : W3.heap[wr.heap.size]? = some (.cells #[.int .i64 ax, .int .i64 ay, .int .i64 tx, .int .i64 ty, .int .i64 col, .int .i64 rg] 151 (0, 0)) := by rw [hW3]; exact block_set (block_set Q8.out _) _
    have hX3 : Below wr.heap.size wr W3 := by rw [hW3]; exact (X2.out.setCell (Nat.le_refl _) _).setCell (Nat.le_refl _) _
    clear hW3 f8 d8 c1 Q8 X2 l8
    (with_reducible refine (trdir_any m _ _ _ HM.out IN2.out D2.out).mono ?_)
    rintro e w4 ⟨rfl, hb4⟩
    have hX4 := below_step hX3 hb4
    have q8 := block_later hb4 p8
    have f8 := free_block q8
    have d8 := cell_block q8
    have X4 := Lib.hid hX4
    have c1 := cell_block (block_later (below_step hbr hX4) P1.out)
    have l8 := lt_block q8
    clear p8 q8 hb4 hX3 hX4
    by_cases hv : v1 = true ∧ v2 = true
    rotate_left
    · have hvf : (v1 && v2) = false := by cases v1 <;> cases v2 <;> simp at hv ⊢
      have HE := HR.out.symm.trans (AN.out hvf)
      obtain ⟨rfl, rfl⟩ : r = [] ∧ u = false := ⟨congrArg Prod.fst HE, congrArg Prod.snd HE⟩
      clear HE hv AN AS OS
      have hend : ∀ w', Below wr.heap.size wr w' → Below w.heap.size w w' := fun w' hw => HB.out.trans ((hbr.trans (hw.mono hszr)).mono HB.out.size)
      have HEND := Lib.hid hend
      clear hend
      cases v1
      · go_wp2_with fail
        go_ret2
        exact ⟨none, 0, 0, rfl, rfl, OwnSc.nil _ _, HEND.out _ ((X4.out.setCell (Nat.le_refl _) _).setCell (Nat.le_refl _) _)⟩
      · cases v2
        · go_wp2_with fail
          go_ret2
          exact ⟨none, 0, 0, rfl, rfl, OwnSc.nil _ _, HEND.out _ ((X4.out.setCell (Nat.le_refl _) _).setCell (Nat.le_refl _) _)⟩
        · simp at hvf
    obtain ⟨rfl, rfl⟩ := hv
    have hRR := HRR.out
    have hq := HQ.out
    by_cases h0 : 0 < R
    · go_wp2_with (at_builtin; generalize hwn : World.alloc _ _ = wA; obtain ⟨pA, hbA⟩ := box1 hwn.symm; have hbX : Below wr.heap.size wr wA := (by rw [← hwn]; exact (((X4.out.setCell (Nat.le_refl _) _).setCell (Nat.le_refl _) _).setCell (Nat.le_refl _) _).alloc (by simp only [World.size_setCell]; exact X4.out.size) _); clear hwn; simp only [World.size_setCell] at pA; refine wpList_appT sCells_len (by omega) Tryz.underlying30 info_sec rfl rfl _ _ rfl W.heap.size _ (outS m (l.take k)) [⟨ax, ay, bx, by', col, R⟩] rfl (OW.out.keep hbX) _ 1 1 rfl rfl (SrcAt.one pA rfl) (secs_one _) (by rw [NO.out]) (by unfold maxLen; omega) (by omega) (by have := hbX.size; omega) ?_; intro ad3 c3 w3 hown3 hg3 hb3)
      have hX5 : Below W.heap.size wr w3 := (hbX.mono hszr).trans hb3
      have hL : (outS m (l.take (k + 1))).length = no + 1 := by rw [OS.out, if_pos h0, List.length_append, NO.out]; rfl
      have HO3 := Lib.hid (show OwnSc W.heap.size w3 (.slice ad3 (no + 1) c3) (outS m (l.take (k + 1))) by rw [OS.out, if_pos h0]; exact hown3)
      clear hown3 hg3 hb3
      go_wp2_with fail
      go_roundw
      case rel => exact ⟨k + 1, ad3, c3, no + 1, by omega, by go_num, hL, rfl, by rw [AS.out, ALL.out]; rfl, HO3.out, hbr.trans hX5⟩
      case measure => simp [Go.RowKit.intOf]; omega
    · have d0 : decide (0 < R) = false := decide_eq_false h0
      have h0' : R ≤ 0 := by omega
      have hL : outS m (l.take (k + 1)) = outS m (l.take k) := by rw [OS.out, if_neg h0, List.append_nil]
      have HLL := Lib.hid hL
      clear hL h0
      go_wp2_with fail
      go_roundw
      case rel => exact ⟨k + 1, ad', c', no, by omega, by go_num, by rw [HLL.out, NO.out], rfl, by rw [AS.out, ALL.out]; rfl, by rw [HLL.out]; exact OW.out.keep (((X4.out.setCell (Nat.le_refl _) _).setCell (Nat.le_refl _) _).setCell (Nat.le_refl _) _), hbr.trans ((((X4.out.setCell (Nat.le_refl _) _).setCell (Nat.le_refl _) _).setCell (Nat.le_refl _) _).mono hszr)⟩
      case measure => simp [Go.RowKit.intOf]; omega
end Go.Proofs.YtdmegkkifiahdaaGreat
/- The walks of package transport: a carried light; the shape of a feature, and a feature with another shape. -/
namespace Go.Proofs.YtdmegkkifiahdaaGreat
open Go.RowKit Go.Shelf
attribute [local go_sem] bqOp bqAll bqUpon sqOp sqAll sqUpon ssAll ssOp
attribute [local irreducible] wpQuiet wpBQ wpPlan wsPlan
attribute [local go_sem high] run_maxW run_minW run_max4W
set_option linter.unusedVariables false
theorem asT_dd (v : Value) (w : World) : (Instr.typeAssert (.iface 205 v) 202 205 true).run Tryz.prog w = .ok (.tuple #[v, .bool true]) w := by kernel_rfl
theorem asT_ad (v : Value) (w : World) : (Instr.typeAssert (.iface 215 v) 202 205 true).run Tryz.prog w = .ok (.tuple #[.agg #[.int .i64 0, .int .i64 0, .int .i64 0], .bool false]) w := by kernel_rfl
theorem asT_ld (v : Value) (w : World) : (Instr.typeAssert (.iface 210 v) 202 205 true).run Tryz.prog w = .ok (.tuple #[.agg #[.int .i64 0, .int .i64 0, .int .i64 0], .bool false]) w := by kernel_rfl
theorem asT_aa (v : Value) (w : World) : (Instr.typeAssert (.iface 215 v) 202 215 true).run Tryz.prog w = .ok (.tuple #[v, .bool true]) w := by kernel_rfl
theorem asT_la (v : Value) (w : World) : (Instr.typeAssert (.iface 210 v) 202 215 true).run Tryz.prog w = .ok (.tuple #[.agg #[.slice none 0 0], .bool false]) w := by kernel_rfl
theorem asT_ll (v : Value) (w : World) : (Instr.typeAssert (.iface 210 v) 202 210 true).run Tryz.prog w = .ok (.tuple #[v, .bool true]) w := by kernel_rfl
attribute [local go_sem] asT_dd asT_ad asT_ld asT_aa asT_la asT_ll
set_option maxHeartbeats 1000000 in
theorem trlight_any (m : Dat) (x y : Int) (l : List Sec) (a0 : Option Addr) (n0 c0 : Nat) (w : World) (hm : DatOk m) (hp : Vld x y) (h : SecsAt w (.slice a0 n0 c0) l) (hl : ∀ i, i < l.length → SecIn (l.getD i noSec)) (h12 : l.length ≤ 12) {px py : Int} {u : Bool} (hr : placeD m x y = ((px, py), u)) {r : List Sec} {t : Bool} (hs : secsR m l = (r, t)) :
    Calls Tryz.prog 434 #[.agg #[.int .i64 x, .int .i64 y, .slice a0 n0 c0], carV m] w fun e w' => ∃ (ad : Option Addr) (n c : Nat), r.length = n ∧ e = .returned (.tuple #[.iface 210 (.agg #[.int .i64 px, .int .i64 py, .slice ad n c]), .bool (u && t)]) ∧ OwnSc w.heap.size w' (.slice ad n c) r ∧ Below w.heap.size w w' := by
  have HR := Lib.hid hr
  have HS := Lib.hid hs
  have HM := Lib.hid hm
  have HP := Lib.hid hp
  have HL := Lib.hid hl
  have H := Lib.hid h
  have H12 := Lib.hid h12
  clear hr hs hm hp hl h h12
  go_enter Tryz.func434, Tryz.ntmps434
  go_wp2_with fail
  refine calls_named fun W hW => ?_
  obtain ⟨p1, p2, hB⟩ := box2 hW
  clear hW
  have P1 := Lib.hid p1
  have P2 := Lib.hid p2
  clear p1 p2
  (with_reducible refine (trplace_any m _ _ _ HM.out HP.out HR.out).mono ?_)
  rintro z w1 ⟨rfl, hb1⟩
  have hB1 := below_step hB hb1
  have c1 := fun ob => cell_block (block_later ((Below.refl w1.heap.size w1).alloc (Nat.le_refl _) ob) (block_later hb1 P1.out))
  have c2 := fun ob => cell_block (block_later ((Below.refl w1.heap.size w1).alloc (Nat.le_refl _) ob) (block_later hb1 P2.out))
  go_wp2_with fail
  refine calls_named fun W2 hW2 => ?_
  obtain ⟨p3, hB2⟩ := box1 hW2
  clear hW2 c1 c2
  have hB3 := below_step hB1 hB2
  (with_reducible refine (trsectors_any m l _ _ HM.out (by have h := H.out; unfold SecsAt at h ⊢; exact Lists.later h hB3) HL.out H12.out HS.out).mono ?_)
  rintro z w3 ⟨ad, n, c, hn, rfl, hsec, hb3⟩
  have hB4 := below_step hB3 hb3
  have c3 := cell_block (block_later hb3 p3)
  have SEC := Lib.hid hsec
  have HN := Lib.hid hn
  clear hsec hn p3
  cases u
  · go_wp2_with fail
    go_ret2
    exact ⟨ad, n, c, HN.out, rfl, OwnT.mono SEC.out hB3.size, hB4⟩
  · go_wp2_with fail
    go_ret2
    exact ⟨ad, n, c, HN.out, by cases t <;> rfl, OwnT.mono SEC.out hB3.size, hB4⟩
/-- The shape of a feature. -/
def shapeT (f : Feat) (va vs : Value) : Value := if f.kind = 3 ∨ f.kind = 6 then .iface 215 (.agg #[va]) else if f.kind = 4 then .iface 210 (.agg #[.int .i64 f.x, .int .i64 f.y, vs]) else .iface 205 (.agg #[.int .i64 f.x, .int .i64 f.y, .int .i64 f.rad])
theorem trof_any (f : Feat) (aa ab : Option Addr) (na ca ns cs : Nat) (w : World) : Calls Tryz.prog 161 #[featV f (.slice aa na ca) (.slice ab ns cs)] w fun e w' => e = .returned (shapeT f (.slice aa na ca) (.slice ab ns cs)) ∧ Below w.heap.size w w' := by
  unfold shapeT
  by_cases h3 : f.kind = 3
  · rw [if_pos (.inl h3)]
    have d : (f.kind == 3) = true := by simp [h3]
    clear h3
    go_enter Tryz.func161, Tryz.ntmps161
    go_wp2
    go_returns
    exact ⟨rfl, by go_grown⟩
  have d3 : (f.kind == 3) = false := by simpa using h3
  by_cases h6 : f.kind = 6
  · rw [if_pos (.inr h6)]
    have d : (f.kind == 6) = true := by simp [h6]
    clear h3 h6
    go_enter Tryz.func161, Tryz.ntmps161
    go_wp2
    go_returns
    exact ⟨rfl, by go_grown⟩
  have d6 : (f.kind == 6) = false := by simpa using h6
  rw [if_neg (by omega)]
  by_cases h4 : f.kind = 4
  · rw [if_pos h4]
    have d : (f.kind == 4) = true := by simp [h4]
    clear h3 h6 h4
    go_enter Tryz.func161, Tryz.ntmps161
    go_wp2
    go_returns
    exact ⟨rfl, by go_grown⟩
  · rw [if_neg h4]
    have d : (f.kind == 4) = false := by simpa using h4
    clear h3 h6 h4
    go_enter Tryz.func161, Tryz.ntmps161
    go_wp2
    go_returns
    exact ⟨rfl, by go_grown⟩
set_option maxRecDepth 20000 in
set_option maxHeartbeats 2000000 in
theorem trwith_disc (f : Feat) (x y r : Int) (aa ab : Option Addr) (na ca ns cs : Nat) (w : World) : Calls Tryz.prog 230 #[featV f (.slice aa na ca) (.slice ab ns cs), .iface 205 (.agg #[.int .i64 x, .int .i64 y, .int .i64 r])] w fun e w' => e = .returned (featV { f with x := x, y := y, rad := r } (.slice aa na ca) (.slice ab ns cs)) ∧ Below w.heap.size w w' := by
  go_enter Tryz.func230, Tryz.ntmps230
  go_wp2_with fail
  refine wp_named fun W hW => ?_
  obtain ⟨p1, p2, p3, hB⟩ := box3 hW
  clear hW
  have hsz := lt_block p3
  have F1 : ∀ w', KeepB W w.heap.size [w.heap.size + 2] w' → ∀ i, w'.cell? ⟨w.heap.size + 2, i, none⟩ = #[.int .i64 x, .int .i64 y, .int .i64 r][i]? := fun w' hw i => cell_block (hw.at (by simp) p3) i
  have P2 := Lib.hid p2
  have HB := Lib.hid hB
  have q1 := (show W.drew.heap[w.heap.size]? = _ from p1)
  have f1 := free_block q1
  have c1 := cell_block q1
  clear p1 p2 p3 hB
  refine wp_region_planS (KeepB W w.heap.size [w.heap.size + 2]) (.take 0 (.take 0 (.take 0 (.take 0 (.take 0 (.only 0 (.take 0 (.only 0 .done)))))))) (by kernel_rfl) (by kernel_rfl) KeepB.refl (fun hP => ?_)
  generalize hwd : W.drew = W2 at hP q1 f1 c1 ⊢
  (refine wsPlan_take rfl (fun K hK => ?_); replace hK := Lib.hid hK; go_simp; first | (refine hK.out _ ?_; clear hK K) | (apply Exists.intro; refine ⟨fun w' hw => ?_, hK.out _ ?_⟩; (first | with_reducible exact rfl | (have f1 := F1 w' hw; go_simp; exact rfl)); clear hK K))
  (refine wsPlan_take rfl (fun K hK => ?_); replace hK := Lib.hid hK; go_simp; first | (refine hK.out _ ?_; clear hK K) | (apply Exists.intro; refine ⟨fun w' hw => ?_, hK.out _ ?_⟩; (first | with_reducible exact rfl | (have f1 := F1 w' hw; go_simp; exact rfl)); clear hK K))
  (refine wsPlan_take rfl (fun K hK => ?_); replace hK := Lib.hid hK; go_simp; first | (refine hK.out _ ?_; clear hK K) | (apply Exists.intro; refine ⟨fun w' hw => ?_, hK.out _ ?_⟩; (first | with_reducible exact rfl | (have f1 := F1 w' hw; go_simp; exact rfl)); clear hK K))
  (refine wsPlan_take rfl (fun K hK => ?_); replace hK := Lib.hid hK; go_simp; first | (refine hK.out _ ?_; clear hK K) | (apply Exists.intro; refine ⟨fun w' hw => ?_, hK.out _ ?_⟩; (first | with_reducible exact rfl | (have f1 := F1 w' hw; go_simp; exact rfl)); clear hK K))
  (refine wsPlan_take rfl (fun K hK => ?_); replace hK := Lib.hid hK; go_simp; first | (refine hK.out _ ?_; clear hK K) | (apply Exists.intro; refine ⟨fun w' hw => ?_, hK.out _ ?_⟩; (first | with_reducible exact rfl | (have f1 := F1 w' hw; go_simp; exact rfl)); clear hK K))
  (refine wsPlan_only rfl (fun K hK => ?_); replace hK := Lib.hid hK; go_simp; refine hK.out _ _ (by exact (hP.setCell (by omega) (by simp) _).setCell (by omega) (by simp) _) (fun hP => ?_); clear hK K)
  have q2 := block_set (i := 3) (block_set (i := 2) q1 (.int .i64 x)) (.int .i64 y)
  clear f1 c1
  have f1 := free_block q2
  have c1 := cell_block q2
  (refine wsPlan_take rfl (fun K hK => ?_); replace hK := Lib.hid hK; go_simp; first | (refine hK.out _ ?_; clear hK K) | (apply Exists.intro; refine ⟨fun w' hw => ?_, hK.out _ ?_⟩; (first | with_reducible exact rfl | (have f1 := F1 w' hw; go_simp; exact rfl)); clear hK K))
  (refine wsPlan_only rfl (fun K hK => ?_); replace hK := Lib.hid hK; go_simp; refine hK.out _ _ (by exact hP.setCell (by omega) (by simp) _) (fun hP => ?_); clear hK K)
  refine wsPlan_done ?_
  have q3 := block_set (i := 4) q2 (.int .i64 r)
  clear f1 c1 F1
  have p2 := block_far (a := ⟨w.heap.size, 4, none⟩) (block_far (a := ⟨w.heap.size, 3, none⟩) (block_far (a := ⟨w.heap.size, 2, none⟩) (show W2.heap[w.heap.size + 1]? = _ by rw [← hwd]; exact P2.out) (by simp) (.int .i64 x)) (by simp) (.int .i64 y)) (by simp) (.int .i64 r)
  have hB3 := Lib.hid (HB.out.trans hP.1)
  clear q1 q2 hP hwd
  have f2 := free_block p2
  have c2 := cell_block p2
  have c3 := cell_block q3
  have P2 := Lib.hid p2
  clear p2 q3
  go_wp2_with fail
  have c9 := cell_block (block_set (i := 8) (block_set (i := 7) (block_set (i := 6) (block_set (i := 5) (block_set (i := 4) (block_set (i := 3) (block_set (i := 2) (block_set (i := 1) (block_set (i := 0) P2.out (.int .i64 f.id)) (.int .i64 f.kind)) (.int .i64 x)) (.int .i64 y)) (.int .i64 r)) (.slice aa na ca)) (.int .i64 f.dep)) (.int .i64 f.sym)) (.slice ab ns cs))
  exact bodyPost_ret (v := featV { f with x := x, y := y, rad := r } (.slice aa na ca) (.slice ab ns cs)) (by simp [results, Tryz.results230, go_sem, c9]) rfl ⟨rfl, (((((((((hB3.out.setCell (by dsimp only; omega) _).setCell (by dsimp only; omega) _).setCell (by dsimp only; omega) _).setCell (by dsimp only; omega) _).setCell (by dsimp only; omega) _).setCell (by dsimp only; omega) _).setCell (by dsimp only; omega) _).setCell (by dsimp only; omega) _).setCell (by dsimp only; omega) _)⟩
set_option maxRecDepth 20000 in
set_option maxHeartbeats 2000000 in
theorem trwith_light (f : Feat) (x y : Int) (ad : Option Addr) (n c : Nat) (aa ab : Option Addr) (na ca ns cs : Nat) (w : World) : Calls Tryz.prog 230 #[featV f (.slice aa na ca) (.slice ab ns cs), .iface 210 (.agg #[.int .i64 x, .int .i64 y, .slice ad n c])] w fun e w' => e = .returned (featV { f with x := x, y := y } (.slice aa na ca) (.slice ad n c)) ∧ Below w.heap.size w w' := by
  go_enter Tryz.func230, Tryz.ntmps230
  go_wp2_with fail
  refine wp_named fun W hW => ?_
  obtain ⟨p1, p2, p3, hB⟩ := box3 hW
  clear hW
  have hsz := lt_block p3
  have F1 : ∀ w', KeepB W w.heap.size [w.heap.size + 2] w' → ∀ i, w'.cell? ⟨w.heap.size + 2, i, none⟩ = #[.int .i64 x, .int .i64 y, .slice ad n c][i]? := fun w' hw i => cell_block (hw.at (by simp) p3) i
  have P2 := Lib.hid p2
  have HB := Lib.hid hB
  have q1 := (show W.drew.heap[w.heap.size]? = _ from p1)
  have f1 := free_block q1
  have c1 := cell_block q1
  clear p1 p2 p3 hB
  refine wp_region_planS (KeepB W w.heap.size [w.heap.size + 2]) (.take 0 (.take 0 (.take 0 (.take 0 (.take 0 (.only 0 (.take 0 (.only 0 .done)))))))) (by kernel_rfl) (by kernel_rfl) KeepB.refl (fun hP => ?_)
  generalize hwd : W.drew = W2 at hP q1 f1 c1 ⊢
  (refine wsPlan_take rfl (fun K hK => ?_); replace hK := Lib.hid hK; go_simp; first | (refine hK.out _ ?_; clear hK K) | (apply Exists.intro; refine ⟨fun w' hw => ?_, hK.out _ ?_⟩; (first | with_reducible exact rfl | (have f1 := F1 w' hw; go_simp; exact rfl)); clear hK K))
  (refine wsPlan_take rfl (fun K hK => ?_); replace hK := Lib.hid hK; go_simp; first | (refine hK.out _ ?_; clear hK K) | (apply Exists.intro; refine ⟨fun w' hw => ?_, hK.out _ ?_⟩; (first | with_reducible exact rfl | (have f1 := F1 w' hw; go_simp; exact rfl)); clear hK K))
  (refine wsPlan_take rfl (fun K hK => ?_); replace hK := Lib.hid hK; go_simp; first | (refine hK.out _ ?_; clear hK K) | (apply Exists.intro; refine ⟨fun w' hw => ?_, hK.out _ ?_⟩; (first | with_reducible exact rfl | (have f1 := F1 w' hw; go_simp; exact rfl)); clear hK K))
  (refine wsPlan_take rfl (fun K hK => ?_); replace hK := Lib.hid hK; go_simp; first | (refine hK.out _ ?_; clear hK K) | (apply Exists.intro; refine ⟨fun w' hw => ?_, hK.out _ ?_⟩; (first | with_reducible exact rfl | (have f1 := F1 w' hw; go_simp; exact rfl)); clear hK K))
  (refine wsPlan_take rfl (fun K hK => ?_); replace hK := Lib.hid hK; go_simp; first | (refine hK.out _ ?_; clear hK K) | (apply Exists.intro; refine ⟨fun w' hw => ?_, hK.out _ ?_⟩; (first | with_reducible exact rfl | (have f1 := F1 w' hw; go_simp; exact rfl)); clear hK K))
  (refine wsPlan_only rfl (fun K hK => ?_); replace hK := Lib.hid hK; go_simp; refine hK.out _ _ (by exact (hP.setCell (by omega) (by simp) _).setCell (by omega) (by simp) _) (fun hP => ?_); clear hK K)
  have q2 := block_set (i := 3) (block_set (i := 2) q1 (.int .i64 x)) (.int .i64 y)
  clear f1 c1
  have f1 := free_block q2
  have c1 := cell_block q2
  (refine wsPlan_take rfl (fun K hK => ?_); replace hK := Lib.hid hK; go_simp; first | (refine hK.out _ ?_; clear hK K) | (apply Exists.intro; refine ⟨fun w' hw => ?_, hK.out _ ?_⟩; (first | with_reducible exact rfl | (have f1 := F1 w' hw; go_simp; exact rfl)); clear hK K))
  (refine wsPlan_only rfl (fun K hK => ?_); replace hK := Lib.hid hK; go_simp; refine hK.out _ _ (by exact hP.setCell (by omega) (by simp) _) (fun hP => ?_); clear hK K)
  refine wsPlan_done ?_
  have q3 := block_set (i := 8) q2 (.slice ad n c)
  clear f1 c1 F1
  have p2 := block_far (a := ⟨w.heap.size, 8, none⟩) (block_far (a := ⟨w.heap.size, 3, none⟩) (block_far (a := ⟨w.heap.size, 2, none⟩) (show W2.heap[w.heap.size + 1]? = _ by rw [← hwd]; exact P2.out) (by simp) (.int .i64 x)) (by simp) (.int .i64 y)) (by simp) (.slice ad n c)
  have hB3 := Lib.hid (HB.out.trans hP.1)
  clear q1 q2 hP hwd
  have f2 := free_block p2
  have c2 := cell_block p2
  have c3 := cell_block q3
  have P2 := Lib.hid p2
  clear p2 q3
  go_wp2_with fail
  have c9 := cell_block (block_set (i := 8) (block_set (i := 7) (block_set (i := 6) (block_set (i := 5) (block_set (i := 4) (block_set (i := 3) (block_set (i := 2) (block_set (i := 1) (block_set (i := 0) P2.out (.int .i64 f.id)) (.int .i64 f.kind)) (.int .i64 x)) (.int .i64 y)) (.int .i64 f.rad)) (.slice aa na ca)) (.int .i64 f.dep)) (.int .i64 f.sym)) (.slice ad n c))
  exact bodyPost_ret (v := featV { f with x := x, y := y } (.slice aa na ca) (.slice ad n c)) (by simp [results, Tryz.results230, go_sem, c9]) rfl ⟨rfl, (((((((((hB3.out.setCell (by dsimp only; omega) _).setCell (by dsimp only; omega) _).setCell (by dsimp only; omega) _).setCell (by dsimp only; omega) _).setCell (by dsimp only; omega) _).setCell (by dsimp only; omega) _).setCell (by dsimp only; omega) _).setCell (by dsimp only; omega) _).setCell (by dsimp only; omega) _)⟩
set_option maxRecDepth 20000 in
set_option maxHeartbeats 2000000 in
theorem trwith_area (f : Feat) (ad : Option Addr) (n c : Nat) (aa ab : Option Addr) (na ca ns cs : Nat) (w : World) : Calls Tryz.prog 230 #[featV f (.slice aa na ca) (.slice ab ns cs), .iface 215 (.agg #[.slice ad n c])] w fun e w' => e = .returned (featV f (.slice ad n c) (.slice ab ns cs)) ∧ Below w.heap.size w w' := by
  go_enter Tryz.func230, Tryz.ntmps230
  go_wp2_with fail

  exact bodyPost_ret (v := featV f (.slice ad n c) (.slice ab ns cs)) (by simp [results, Tryz.results230, go_sem]) rfl ⟨rfl, (((Below.refl w.heap.size w).alloc (Nat.le_refl _) _).alloc (by simp) _).alloc (by simp; omega) _⟩
end Go.Proofs.YtdmegkkifiahdaaGreat
