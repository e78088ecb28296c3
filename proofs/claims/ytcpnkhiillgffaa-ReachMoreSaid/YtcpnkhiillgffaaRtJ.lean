/- The walk of Delay. -/
import Derived.Test.YtcpnkhiillgffaaRtI
namespace Go.Proofs.Ytcpnkhiillgffaa
open Go.RowKit
attribute [local go_sem] bqOp bqAll bqUpon
attribute [local go_sem] Oper.semAt_some
attribute [local irreducible] wpQuiet wpBQ wpQuietIn
set_option linter.unusedVariables false
theorem backN_down {ok : Nat → Bool} {n k : Nat} (hk : k ≤ n) (h : ∀ t, n - k ≤ t → t < n → ok t = true) : backN ok n = backN ok (n - k) := by
  induction k with
  | zero => rfl
  | succ k ih =>
    rw [ih (by omega) (fun t h1 h2 => h t (by omega) h2)]
    obtain ⟨q, hq⟩ : ∃ q, n - k = q + 1 := ⟨n - k - 1, by omega⟩
    rw [hq, show n - (k + 1) = q by omega]
    show (if ok q = true then backN ok q else q + 1) = backN ok q
    rw [if_pos (h q (by omega) (by omega))]
/-- What since holds when the rows l have come. -/
def lastV (u1 f : Int) (l : List Nat) : Int := match l.getLast? with
  | none => u1
  | some t => f + (t : Int)
theorem lastV_snoc (u1 f : Int) (l : List Nat) (t : Nat) : lastV u1 f (l ++ [t]) = f + (t : Int) := by simp [lastV]
theorem lastV_dn (u1 f : Int) (n k : Nat) (h1 : 1 ≤ k) (h2 : k ≤ n) : lastV u1 f (dn n k) = f + ((n - k : Nat) : Int) := by
  obtain ⟨j, rfl⟩ : ∃ j, k = j + 1 := ⟨k - 1, by omega⟩
  rw [dn_succ, lastV_snoc, show n - 1 - j = n - (j + 1) by omega]
theorem mem_dn {n k t : Nat} (h : t ∈ dn n k) : n - k ≤ t := by
  unfold dn at h
  obtain ⟨i, hi, rfl⟩ := List.mem_map.1 h
  have := List.mem_range.1 hi
  omega
theorem dn_mem {n k t : Nat} (hk : k ≤ n) (h1 : n - k ≤ t) (h2 : t < n) : t ∈ dn n k :=
  List.mem_map.2 ⟨n - 1 - t, List.mem_range.2 (by omega), by omega⟩
theorem dn_mem' {n j : Nat} (h : n ≤ j) (hn : 0 < n) : n - 1 - j ∈ dn n j :=
  List.mem_map.2 ⟨n - 1, List.mem_range.2 (by omega), by omega⟩
theorem backN_le (ok : Nat → Bool) (n : Nat) : backN ok n ≤ n := by
  induction n with
  | zero => exact Nat.le_refl _
  | succ n ih =>
    show (if ok n = true then backN ok n else n + 1) ≤ n + 1
    split <;> omega
/-- Delay's frame in a round. -/
def delayAct (ad ad2 ad4 ad3 : Option Addr) (np c ne c2 na c4 m c3 g o n ct B0 sb bx : Nat) (f u need : Int) (t : Nat) (rv : Value) : Act :=
  { tmps := #[.agg #[.slice ad np c, .slice ad2 ne c2], .slice ad4 na c4, .slice ad3 m c3, .int .i64 f, .int .i64 u, .int .i64 need, .pointer (some ⟨B0, 0, none⟩), undef, .pointer (some ⟨B0 + 1, 0, none⟩), .pointer (some ⟨B0 + 2, 0, none⟩), undef, .pointer (some ⟨B0 + 3, 0, none⟩), .int .i64 0, .int .i64 0,
      .slice (some ⟨g, o, none⟩) n ct, .int .i64 0, .pointer (some ⟨sb, 0, none⟩), .int .i64 (t : Int), rv, .tuple #[.slice (some ⟨g, o, none⟩) n ct, .int .i64 0], .agg #[.slice ad np c, .slice ad2 ne c2], .slice ad4 na c4, .int .i64 f, .int .i64 u, .tuple #[.slice (some ⟨g, o, none⟩) n ct, .int .i64 0],
      .slice (some ⟨g, o, none⟩) n ct, .int .i64 0, .int .i64 0, .bool false, .bool false, .agg #[.slice ad np c, .slice ad2 ne c2], .slice ad3 m c3, .bool true, .bool false, .bool false, .bool false, .int .i64 need, .bool true, .bool false, .bool false, .int .i64 u, .int .i64 (u + 1),
      .slice (some ⟨g, o, none⟩) n ct, .func (.func 93) #[] #[.pointer (some ⟨bx, 0, none⟩)], .int .i64 (t : Int), rv, undef, undef, undef, undef, undef, undef, undef, undef, undef, undef, undef, undef], defers := [] }
set_option maxRecDepth 100000 in
set_option maxHeartbeats 2000000 in
theorem hDelay_in (np c ne c2 na c4 m c3 : Nat) (ad ad2 ad4 ad3 : Option Addr) (X E A Y : Nat → Nat → Int) (f u need : Int) (w : World) (hX : Rows 2 w (.slice ad np c) np X) (hE : Rows 4 w (.slice ad2 ne c2) ne E) (hA : Rows 4 w (.slice ad4 na c4) na A) (hY : Rows 1 w (.slice ad3 m c3) m Y) (hn1 : np ≤ 9223372036854775807) (hn2 : ne ≤ 9223372036854775807) (hn4 : na ≤ 9223372036854775807) (hn3 : m ≤ 9223372036854775807) {v e : Int} (hr : delayQ np X ne E na A m Y f u need = (v, e)) (dp : Nat) (hdp : 4 ≤ dp) :
    CallsIn Fence.wide dp Try.prog 29 #[.agg #[.slice ad np c, .slice ad2 ne c2], .slice ad4 na c4, .slice ad3 m c3, .int .i64 f, .int .i64 u, .int .i64 need] w fun z w' => z = .returned (.tuple #[.int .i64 v, .int .i64 e]) ∧ Below w.heap.size w w' := by
  unfold delayQ at hr
  have HX := Lib.hid hX
  have HE := Lib.hid hE
  have HA := Lib.hid hA
  have HY := Lib.hid hY
  have RR := Lib.hid hr
  clear hX hE hA hY hr
  obtain ⟨va, gva⟩ : ∃ va, decide (AreaOk np m Y) = va := ⟨_, rfl⟩
  have VA := Lib.hid gva
  clear gva
  obtain ⟨vn, gvn⟩ : ∃ vn, decide (0 ≤ need ∧ need ≤ 400) = vn := ⟨_, rfl⟩
  have VN := Lib.hid gvn
  clear gvn
  refine callsIn_of_wp_marks Try.func29 rfl trivial ?_ rfl
  simp only [Try.ntmps29, List.append_toArray, List.cons_append, List.nil_append, List.size_toArray, List.length_cons, List.length_nil, Nat.reduceAdd, Nat.reduceSub, Array.replicate_succ, Array.replicate_zero, List.push_toArray]
  gi_wp2
  refine ⟨trivial, fun _ => by omega, ?_⟩
  generalize hW : (World.alloc _ _) = W
  obtain ⟨p1, p2, p3, p4, hB⟩ := box4 hW.symm
  clear hW
  have hB0 := Below.refl W.heap.size W
  have q1 := cellsL p1
  have q2 := cellsL p2
  have q3 := cellsL p3
  have q4 := cellsL p4
  have P1 := Lib.hid p1
  have P2 := Lib.hid p2
  have P3 := Lib.hid p3
  have P4 := Lib.hid p4
  clear p1 p2 p3 p4
  by_cases hok : TblOk np X ne E na A f u
  rotate_left
  · have NO := Lib.hid hok
    have h := RR.out
    rw [if_neg (fun h => hok h.1)] at h
    cases h
    clear RR hok
    have no : ¬ (NetOk np X ne E ∧ AirsOk na A ∧ TimesOk f u) := NO.out
    refine (callsIn_wide.2 (hTable_no _ _ _ _ _ _ _ _ _ _ _ _ _ _ _ (HX.out.later hB) (HE.out.later hB) (HA.out.later hB) hn1 hn2 hn4 no)).mono ?_
    rintro z w1 ⟨rfl, hb1⟩
    have hB1 := below_step hB0 hb1
    gi_wp2
    refine ⟨trivial, ?_⟩
    gi_wp2
    refine ⟨trivial, ?_⟩
    gi_wp2
    exact ⟨.tuple #[.int .i64 0, .int .i64 1], by simp [results, Try.results29, go_sem], rfl, below_step hB hB1⟩
  obtain ⟨g1, g2, g3⟩ := hok
  have G1 := Lib.hid g1
  have G2 := Lib.hid g2
  have G3 := Lib.hid g3
  obtain ⟨t1, t2, t3, t4⟩ := g3
  have np2 := g1.2.1
  have na4 := g2.1
  clear g1 g2
  refine (callsIn_wide.2 (hTable_yes _ _ _ _ _ _ _ _ _ _ _ _ _ _ _ (HX.out.later hB) (HE.out.later hB) (HA.out.later hB) hn1 hn2 hn4 G1.out G2.out G3.out)).mono ?_
  rintro z w1 ⟨tv, rfl, hb1, htab⟩
  have hB1 := below_step hB0 hb1
  obtain ⟨n, hn⟩ : ∃ n, (u - f + 1).toNat = n := ⟨_, rfl⟩
  have TE : Hid (tblI X A E na f u ne = tblN X A E na f ne n) := Lib.hid (by unfold tblI; rw [hn])
  rw [hn] at htab
  have NN := Lib.hid hn
  clear hn
  obtain ⟨at', ct, rfl, htt, htn⟩ := htab.form
  have TT := Lib.hid htt
  clear htab htt
  gi_wp2
  refine ⟨trivial, fun _ => by omega, ?_⟩
  refine (callsIn_wide.2 (hIsArea_any _ _ _ _ _ _ _ _ _ _ _ (HY.out.later (below_step hB hB1)) hn1 hn3 VA.out)).mono ?_
  rintro z w2 ⟨rfl, hb2⟩
  have hB2 := below_step hB1 hb2
  have TT2 := Lib.hid (TT.out.later hb2)
  clear TT
  cases va
  · have h := RR.out
    rw [if_neg (fun h => of_decide_eq_false VA.out h.2.1)] at h
    cases h
    clear RR
    gi_wp2
    refine ⟨trivial, ?_⟩
    gi_wp2
    exact ⟨.tuple #[.int .i64 0, .int .i64 1], by simp [results, Try.results29, go_sem], rfl, below_step hB hB2⟩
  gi_wp2
  refine ⟨trivial, fun _ => by omega, ?_⟩
  refine (callsIn_wide.2 (hIsNeed_any _ _ VN.out)).mono ?_
  rintro z w3 ⟨rfl, hb3⟩
  have hB3 := below_step hB2 hb3
  have TT3 := Lib.hid (TT2.out.later hb3)
  clear TT2
  cases vn
  · have h := RR.out
    rw [if_neg (fun h => of_decide_eq_false VN.out h.2.2)] at h
    cases h
    clear RR
    gi_wp2
    exact ⟨.tuple #[.int .i64 0, .int .i64 1], by simp [results, Try.results29, go_sem], rfl, below_step hB hB3⟩
  have AR := Lib.hid (of_decide_eq_true VA.out)
  have YA : Hid (∀ i, i < m → 0 ≤ Y i 0 ∧ Y i 0 < (np : Int)) := Lib.hid (fun i hi => (AR.out i hi).1)
  have h := RR.out
  rw [if_pos ⟨⟨G1.out, G2.out, G3.out⟩, AR.out, of_decide_eq_true VN.out⟩] at h
  have HV := Lib.hid h
  clear h RR
  have nn : (n : Int) = u - f + 1 := by have := NN.out; omega
  have hn0 : 0 < n := by omega
  obtain ⟨g, o, a0, k0, rfl, -⟩ := TT3.out.row hn0
  have ju : IntKind.i64.wrap (u + 1) = u + 1 := IntWalk.i64_in _ (by omega)
  gi_wp2
  refine ⟨trivial, fun _ => by omega, ?_⟩
  generalize hW4 : (World.alloc _ _) = W4
  have hs4 : W4.heap.size = w3.heap.size + 1 := by subst hW4; simp
  obtain ⟨p5, hb4⟩ := box1 hW4.symm
  clear hW4
  refine (callsIn_wide.2 (lBackward_any (some ⟨g, o, none⟩) n ct W4)).mono ?_
  rintro z W5 ⟨rfl, hb5, hs5, ty5, p6⟩
  have P5 := Lib.hid (block_later hb5 p5)
  have P6 := Lib.hid p6
  have S4 := Lib.hid hs4
  have S5 := Lib.hid hs5
  clear p5 p6 hs4 hs5
  gi_wp2
  obtain ⟨T, hT⟩ : ∃ T, tblN X A E na f ne n = T := ⟨_, rfl⟩
  rw [hT] at TT3 TE
  clear hT
  obtain ⟨rv, hrv⟩ : ∃ rv : Nat → Value, ∀ t x, W5.cell? ⟨g, o + t, none⟩ = some x → rv t = x := ⟨fun t => (W5.cell? ⟨g, o + t, none⟩).getD undef, fun t x h => by show (W5.cell? ⟨g, o + t, none⟩).getD undef = x; rw [h]; rfl⟩
  have hb35 : Below w3.heap.size w3 W5 := below_step hb4 hb5
  have ROW : Hid (∀ t, t < n → ∃ a k, rv t = .slice a np k ∧ W5.cell? ⟨g, o + t, none⟩ = some (rv t) ∧ Rows 1 w3 (.slice a np k) np (fun j _ => T t j)) := Lib.hid (fun t ht => by
    obtain ⟨g', o', a, k, e, hc, hl, hr⟩ := TT3.out.row ht
    obtain ⟨rfl, rfl⟩ : g = g' ∧ o = o' := by simpa using e
    have hc5 := cell_later hb35 hc
    have h := hrv t _ hc5
    exact ⟨a, k, h, by rw [h]; exact hc5, hr⟩)
  clear hrv
  have hg3 : g < w3.heap.size := by
    obtain ⟨g', o', a, k, e, hc, hl, hr⟩ := TT3.out.row hn0
    obtain ⟨rfl, rfl⟩ : g = g' ∧ o = o' := by simpa using e
    exact block_lt_of_cell hc
  have hL : W5.heap.size = w3.heap.size + 2 := by have := S4.out; have := S5.out; omega
  have hbx : W4.heap.size = w3.heap.size + 1 := S4.out
  have HL := Lib.hid hL
  have HBLE := Lib.hid (show delayB np X ne E na A m Y f u need ≤ n by unfold delayB; rw [NN.out]; exact backN_le _ _)
  have HBX := Lib.hid hbx
  have hseq := lBackward1_stops (dp - 1) n ct W4.heap.size g o (by omega) (fun k => k = w3.heap.size ∨ W5.heap.size ≤ k) rv W5 (by omega) ⟨_, P6.out⟩ (fun t ht => by obtain ⟨a, k, _, h, _⟩ := ROW.out t ht; exact h) (by omega) (fun h => h.elim (fun h => by omega) (fun h => by omega)) (fun h => h.elim (fun h => by omega) (fun h => by omega))
  clear hL hbx
  refine wpIn_rangeFunc_ownF (F := Fence.wide) (n := dp) rfl (by omega) (gf := 93) (lb := #[.pointer (some ⟨W4.heap.size, 0, none⟩)]) rfl trivial (enters_of Try.func93 (by kernel_rfl) rfl) hseq (fun h k => h.trans k) (fun W l _ o' h1 _ _ _ => kp_put W l o' (.inr h1)) (Below.refl _ _) (fun _ => rfl)
    (fun pre W => Bes w3.heap.size W5 W ∧ W.heap[w3.heap.size]? = some (.cells #[.int .i64 (lastV (u + 1) f (pre.map (·.1)))] 3 (0, 0)) ∧ ∀ t ∈ pre.map (·.1), enoughT m Y T need t = true)
    (fun cd pre W => cd = .exit 0 ∧ Bes w3.heap.size W5 W ∧ ∃ pre' x, pre = pre' ++ [x] ∧ W.heap[w3.heap.size]? = some (.cells #[.int .i64 (lastV (u + 1) f (pre'.map (·.1)))] 3 (0, 0)) ∧ (∀ t ∈ pre'.map (·.1), enoughT m Y T need t = true) ∧ enoughT m Y T need x.1 = false)
    ?own ?own2 ⟨Bes.refl _ _, P5.out, fun t ht => by simp at ht⟩
    (fun x => delayAct ad ad2 ad4 ad3 np c ne c2 na c4 m c3 g o n ct w.heap.size w3.heap.size W4.heap.size f u need x.1 (rv x.1)) ?assign ?body ?done ?stop
  case own =>
    rintro pre W W' row ⟨h1, h2, h3⟩ hg hr
    refine ⟨⟨hg.os.trans h1.os, hg.tape.trans h1.tape, hg.output.trans h1.output, Nat.le_trans h1.size hg.size, fun i hi hne => (hg.block i (Nat.lt_of_lt_of_le hi h1.size) (fun e => by have := (hr i e.symm).1; omega)).trans (h1.block i hi hne)⟩, (hg.block _ (lt_block h2) (fun e => by obtain ⟨_, ob, ho, hc⟩ := hr _ e.symm; rw [h2] at ho; cases ho; cases hc)).trans h2, h3⟩
  case own2 =>
    rintro cd pre W W' row ⟨h0, h1, pre', x, h4, h2, h3⟩ hg hr
    refine ⟨h0, ⟨hg.os.trans h1.os, hg.tape.trans h1.tape, hg.output.trans h1.output, Nat.le_trans h1.size hg.size, fun i hi hne => (hg.block i (Nat.lt_of_lt_of_le hi h1.size) (fun e => by have := (hr i e.symm).1; omega)).trans (h1.block i hi hne)⟩, pre', x, h4, (hg.block _ (lt_block h2) (fun e => by obtain ⟨_, ob, ho, hc⟩ := hr _ e.symm; rw [h2] at ho; cases ho; cases hc)).trans h2, h3⟩
  case assign =>
    intro l x W K hK
    gi_wp2
    exact hK
  case body =>
    rintro l pre x W6 ⟨h1, h2, h3⟩ hlen
    obtain ⟨a, k, he, -, hrow⟩ := ROW.out x.1 x.2
    obtain ⟨τ, hτ⟩ := x
    dsimp only at he hrow ⊢
    rw [he]
    have hb36 : Below w3.heap.size w3 W6 := hb35.trans (h1.below (Nat.le_refl _) hb35.size)
    have hBW6 := below_step hB3 hb36
    have H3 := Lib.hid h3
    have BS := Lib.hid h1
    have SB := Lib.hid h2
    obtain ⟨lv, hlv⟩ : ∃ lv, lastV (u + 1) f (pre.map (·.1)) = lv := ⟨_, rfl⟩
    rw [hlv] at h2
    have LV := Lib.hid hlv
    have y1 := cell_block (block_later hBW6 P2.out) 0
    have y2 := cell_block (block_later hBW6 P4.out) 0
    obtain ⟨ve, hve⟩ : ∃ ve, decide (EnoughOk m Y (T τ) need) = ve := ⟨_, rfl⟩
    have VE := Lib.hid hve
    have CE := Lib.hid (hEnough_any np k m c3 a ad3 (T τ) Y need W6 (hrow.later hb36) (HY.out.later (below_step hB hBW6)) hn1 hn3 YA.out hve)
    have HROW := Lib.hid hrow
    clear h1 h2 h3 hlv hve hrow he
    unfold delayAct
    have hdp2 : 1 ≤ dp - 1 - 1 := by omega
    gi_wp2
    refine ⟨trivial, ?_⟩
    refine (CallsIn.inRound l (callsIn_wide.2 CE.out)).mono ?_
    rintro z W7 ⟨rfl, hb7⟩
    clear CE
    have BS7 := Lib.hid (BS.out.trans (Bes.of_below hb7))
    have SB7 := Lib.hid (block_later hb7 SB.out)
    have y3 := cell_block (block_later (below_step hBW6 hb7) P3.out) 0
    have z1 := cell_block SB7.out 0
    have z2 := fun i => free_block SB7.out i
    rw [LV.out] at z1
    have jt : IntKind.i64.wrap (f + (τ : Int)) = f + (τ : Int) := IntWalk.i64_in _ (by omega)
    cases ve
    · gi_wp2
      exact ⟨⟨hb7.size, fun k o hk _ => block_later hb7 hk⟩, rfl, BS7.out, pre, ⟨τ, hτ⟩, rfl, SB7.out, H3.out, VE.out⟩
    · gi_wp2
      have hks := kp_set (Av := fun k => k = w3.heap.size ∨ W5.heap.size ≤ k) W7 w3.heap.size 0 (.int .i64 (f + (τ : Int))) (.inl rfl)
      refine ⟨(show KeepsOthers W6 W7 from ⟨hb7.size, fun k o hk _ => block_later hb7 hk⟩).trans (KeepsOthers.setCell _ _ _), (kp_below hb7).trans hks, ⟨BS7.out.os, BS7.out.tape, BS7.out.output, Nat.le_trans BS7.out.size hks.size, fun i hi hne => (Below.heap_setCell _ _ _ i (fun e => hne (by rw [e]))).trans (BS7.out.block i hi hne)⟩, ?_, fun t ht => ?_⟩
      · rw [List.map_append, show List.map (fun x : { t : Nat // t < n } => x.1) [⟨τ, hτ⟩] = [τ] from rfl, lastV_snoc]
        exact block_set SB7.out _
      · rw [List.map_append] at ht
        rcases List.mem_append.1 ht with h | h
        · exact H3.out t h
        · obtain rfl : t = τ := by simpa using h
          exact VE.out
  case done =>
    rintro D ys W6 hD hys ⟨h1, h2, h3⟩ hK
    have hsv : lastV (u + 1) f (ys.map (·.1)) = f + (delayB np X ne E na A m Y f u need : Nat) := by
      rw [hys, lastV_dn _ _ _ _ hn0 (Nat.le_refl _)]
      have hb : delayB np X ne E na A m Y f u need = backN (enoughT m Y T need) (n - n) := by
        unfold delayB
        rw [TE.out, NN.out]
        exact backN_down (Nat.le_refl _) (fun t g1 g2 => h3 t (by rw [hys]; exact dn_mem (Nat.le_refl _) g1 g2))
      rw [hb, show n - n = 0 by omega]
      rfl
    have hb3W : Below w3.heap.size w3 W6 := hb35.trans (h1.below (Nat.le_refl _) hb35.size)
    have hBW := below_step (below_step hB hB3) hb3W
    have HEND := Lib.hid (show Below w.heap.size w (W6.putObj D (.deferred none)) from hBW.grown (grownBy_putObj' W6 D _) hBW.size (fun q e => by cases e; have := (below_step hB hB3).size; have := HL.out; omega))
    have z1 := cell_block h2 0
    rw [hsv] at z1
    have hBn : delayB np X ne E na A m Y f u need ≤ n := HBLE.out
    have HVV := HV.out
    rw [show (u - f + 1).toNat = n from NN.out] at HVV
    clear h1 h2 hsv
    obtain ⟨bq, hbq⟩ : ∃ bq, delayB np X ne E na A m Y f u need = bq := ⟨_, rfl⟩
    rw [hbq] at z1 hBn HVV
    clear hbq
    by_cases hbn : bq = n
    · subst hbn
      rw [if_pos rfl] at HVV
      cases HVV
      have y1 : u < f + (bq : Int) := by omega
      gi_wp2
      refine ⟨by simp, .inl ⟨_, _, rfl, run_takeDeferred hK, ?_⟩⟩
      exact ⟨.tuple #[.int .i64 0, .int .i64 4], by simp [results, Try.results29, go_sem], rfl, HEND.out⟩
    · rw [if_neg hbn] at HVV
      cases HVV
      have y1 : ¬ u < f + (bq : Int) := by omega
      have y2 : f + (bq : Int) ≤ u := by omega
      gi_wp2
      refine ⟨by simp, .inl ⟨_, _, rfl, run_takeDeferred hK, ?_⟩⟩
      exact ⟨.tuple #[.int .i64 (f + (bq : Int)), .int .i64 0], by simp [results, Try.results29, go_sem], rfl, HEND.out⟩
  case stop =>
    rintro D cd pre W6 hD ⟨k, hpre⟩ ⟨rfl, h1, pre', x, rfl, h2, h3, h4⟩ hK
    have hsv : lastV (u + 1) f (pre'.map (·.1)) = f + (delayB np X ne E na A m Y f u need : Nat) := by
      obtain ⟨j, rfl⟩ : ∃ j, k = j + 1 := by
        cases k with
        | zero => simp [dn] at hpre
        | succ j => exact ⟨j, rfl⟩
      rw [dn_succ, List.map_append] at hpre
      have hl := List.append_inj' hpre rfl
      have hx : x.1 = n - 1 - j := by simpa using hl.2
      have hjn : j < n := by
        rcases Nat.lt_or_ge j n with h | h
        · exact h
        · exfalso
          have hxx := hl.1
          have hlt := x.2
          have hlen := congrArg List.length hxx
          simp [dn] at hlen
          have hall : enoughT m Y T need x.1 = true := h3 x.1 (by rw [hl.1, hx]; exact dn_mem' (by omega) (by omega))
          rw [h4] at hall
          cases hall
      have hb : delayB np X ne E na A m Y f u need = n - j := by
        unfold delayB
        rw [TE.out, NN.out, backN_down (k := j) (by omega) (fun t g1 g2 => h3 t (by rw [hl.1]; exact dn_mem (by omega) g1 g2))]
        obtain ⟨q, hq⟩ : ∃ q, n - j = q + 1 := ⟨n - j - 1, by omega⟩
        rw [hq]
        show (if enoughT m Y T need q = true then _ else q + 1) = q + 1
        rw [if_neg (by rw [show q = x.1 by omega, h4]; simp)]
      rw [hb, hl.1]
      by_cases hj0 : j = 0
      · subst hj0
        show u + 1 = _
        omega
      · rw [lastV_dn _ _ _ _ (by omega) (by omega)]
    have hb3W : Below w3.heap.size w3 W6 := hb35.trans (h1.below (Nat.le_refl _) hb35.size)
    have hBW := below_step (below_step hB hB3) hb3W
    have HEND := Lib.hid (show Below w.heap.size w (W6.putObj D (.deferred none)) from hBW.grown (grownBy_putObj' W6 D _) hBW.size (fun q e => by cases e; have := (below_step hB hB3).size; have := HL.out; omega))
    have z1 := cell_block h2 0
    rw [hsv] at z1
    have hBn : delayB np X ne E na A m Y f u need ≤ n := HBLE.out
    have HVV := HV.out
    rw [show (u - f + 1).toNat = n from NN.out] at HVV
    clear h1 h2 hsv
    obtain ⟨bq, hbq⟩ : ∃ bq, delayB np X ne E na A m Y f u need = bq := ⟨_, rfl⟩
    rw [hbq] at z1 hBn HVV
    clear hbq
    by_cases hbn : bq = n
    · subst hbn
      rw [if_pos rfl] at HVV
      cases HVV
      have y1 : u < f + (bq : Int) := by omega
      gi_wp2
      refine ⟨by simp, .inl ⟨_, _, rfl, run_takeDeferred hK, ?_⟩⟩
      exact ⟨.tuple #[.int .i64 0, .int .i64 4], by simp [results, Try.results29, go_sem], rfl, HEND.out⟩
    · rw [if_neg hbn] at HVV
      cases HVV
      have y1 : ¬ u < f + (bq : Int) := by omega
      have y2 : f + (bq : Int) ≤ u := by omega
      gi_wp2
      refine ⟨by simp, .inl ⟨_, _, rfl, run_takeDeferred hK, ?_⟩⟩
      exact ⟨.tuple #[.int .i64 (f + (bq : Int)), .int .i64 0], by simp [results, Try.results29, go_sem], rfl, HEND.out⟩
theorem hDelay_any (np c ne c2 na c4 m c3 : Nat) (ad ad2 ad4 ad3 : Option Addr) (X E A Y : Nat → Nat → Int) (f u need : Int) (w : World) (hX : Rows 2 w (.slice ad np c) np X) (hE : Rows 4 w (.slice ad2 ne c2) ne E) (hA : Rows 4 w (.slice ad4 na c4) na A) (hY : Rows 1 w (.slice ad3 m c3) m Y) (hn1 : np ≤ 9223372036854775807) (hn2 : ne ≤ 9223372036854775807) (hn4 : na ≤ 9223372036854775807) (hn3 : m ≤ 9223372036854775807) {v e : Int} (hr : delayQ np X ne E na A m Y f u need = (v, e)) :
    Calls Try.prog 29 #[.agg #[.slice ad np c, .slice ad2 ne c2], .slice ad4 na c4, .slice ad3 m c3, .int .i64 f, .int .i64 u, .int .i64 need] w fun z w' => z = .returned (.tuple #[.int .i64 v, .int .i64 e]) ∧ Below w.heap.size w w' :=
  callsIn_wide.1 (hDelay_in np c ne c2 na c4 m c3 ad ad2 ad4 ad3 X E A Y f u need w hX hE hA hY hn1 hn2 hn4 hn3 hr 4 (Nat.le_refl _))
end Go.Proofs.Ytcpnkhiillgffaa
