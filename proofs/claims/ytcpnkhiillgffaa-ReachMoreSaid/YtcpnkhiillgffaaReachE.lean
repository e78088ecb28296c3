/- The walks of tracks, in the program and in the reference. -/
import Derived.Test.YtcpnkhiillgffaaReachD
import Derived.Deep.CutRange
namespace Go.Proofs.Ytcpnkhiillgffaa
open Go.RowKit
attribute [local go_sem] bqOp bqAll bqUpon
attribute [local irreducible] wpQuiet wpBQ
set_option linter.unusedVariables false
def SailOk (e : Nat → Int) (pa pb d : Int) : Prop := e 0 = pa ∧ e 1 = pb ∧ e 2 ≤ d ∧ d ≤ e 3
instance (e : Nat → Int) (pa pb d : Int) : Decidable (SailOk e pa pb d) := by unfold SailOk; exact inferInstance
def LeadsOk (ne : Nat) (E : Nat → Nat → Int) (pa ta pb tb : Int) : Prop := (pa = pb ∧ ta < tb) ∨ ∃ i, i < ne ∧ SailOk (E i) pa pb (tb - ta)
instance (ne : Nat) (E : Nat → Nat → Int) (pa ta pb tb : Int) : Decidable (LeadsOk ne E pa ta pb tb) := by unfold LeadsOk; exact inferInstance
def StopOk (np : Nat) (s : Nat → Int) : Prop := (0 ≤ s 0 ∧ s 0 < (np : Int)) ∧ -1000 ≤ s 1 ∧ s 1 ≤ 10000000
instance (np : Nat) (s : Nat → Int) : Decidable (StopOk np s) := by unfold StopOk; exact inferInstance
def StopsOk (np ne : Nat) (E : Nat → Nat → Int) (k : Nat) (L : Nat → Nat → Int) : Prop := (∀ i, i < k → StopOk np (L i)) ∧ ∀ i, i < k - 1 → LeadsOk ne E (L i 0) (L i 1) (L (i + 1) 0) (L (i + 1) 1)
instance (np ne : Nat) (E : Nat → Nat → Int) (k : Nat) (L : Nat → Nat → Int) : Decidable (StopsOk np ne E k L) := by unfold StopsOk; exact inferInstance
def TrackOk (np : Nat) (X : Nat → Nat → Int) (ne : Nat) (E : Nat → Nat → Int) (nl : Nat) (L : Nat → Nat → Int) : Prop := NetOk np X ne E ∧ 1 ≤ nl ∧ nl ≤ 1000 ∧ StopsOk np ne E nl L
instance (np : Nat) (X : Nat → Nat → Int) (ne : Nat) (E : Nat → Nat → Int) (nl : Nat) (L : Nat → Nat → Int) : Decidable (TrackOk np X ne E nl L) := by unfold TrackOk; exact inferInstance
theorem stopsOk_snoc {np ne k : Nat} {E L : Nat → Nat → Int} (h : StopsOk np ne E k L) (hs : StopOk np (L k)) (hl : ∀ m, k = m + 1 → LeadsOk ne E (L m 0) (L m 1) (L (m + 1) 0) (L (m + 1) 1)) : StopsOk np ne E (k + 1) L := by
  refine ⟨fun i hi => ?_, fun i hi => ?_⟩
  · rcases Nat.lt_or_ge i k with g | g
    · exact h.1 i g
    · obtain rfl : i = k := by omega
      exact hs
  · rcases Nat.lt_or_ge i (k - 1) with g | g
    · exact h.2 i g
    · exact hl i (by omega)
theorem stopsOk_step {np ne m : Nat} {E L : Nat → Nat → Int} (h : StopsOk np ne E (m + 1) L) (hs : StopOk np (L (m + 1))) (hl : LeadsOk ne E (L m 0) (L m 1) (L (m + 1) 0) (L (m + 1) 1)) : StopsOk np ne E (m + 1 + 1) L :=
  stopsOk_snoc h hs (fun m' hm' => by
    obtain rfl : m = m' := by omega
    exact hl)
theorem anyN_iff {B : Nat → Bool} {n : Nat} : anyN B n = true ↔ ∃ i, i < n ∧ B i = true := by unfold anyN; simp
set_option maxHeartbeats 1000000 in
theorem hTrack1_any (e0 e1 e2 e3 pa ta pb tb d : Int) (b1 b2 b3 : Nat) (w : World) (h1 : w.heap[b1]? = some (.cells #[.int .i64 pa, .int .i64 ta] 54)) (h2 : w.heap[b2]? = some (.cells #[.int .i64 pb, .int .i64 tb] 54))
    (h3 : w.heap[b3]? = some (.cells #[.int .i64 d] 3)) {v : Bool} (hv : decide (e0 = pa ∧ e1 = pb ∧ e2 ≤ d ∧ d ≤ e3) = v) :
    Calls Try.prog 44 #[.agg #[.int .i64 e0, .int .i64 e1, .int .i64 e2, .int .i64 e3], .pointer (some ⟨b1, 0, none⟩), .pointer (some ⟨b2, 0, none⟩), .pointer (some ⟨b3, 0, none⟩)] w fun e w' => e = .returned (.bool v) ∧ Below w.heap.size w w' := by
  have l1 := lt_block h1
  have l2 := lt_block h2
  have l3 := lt_block h3
  have q1 := cellsL h1
  have q2 := cellsL h2
  have q3 := cellsL h3
  have hA := fun o => (Below.refl w.heap.size w).alloc (Nat.le_refl _) o
  have HV := Lib.hid hv
  clear hv h1 h2 h3
  by_cases h1 : e0 = pa
  rotate_left
  · have d1 : (e0 == pa) = false := by simp [h1]
    have H1 := Lib.hid h1
    clear h1
    go_enter Try.func44, Try.ntmps44
    go_wp2_with fail
    go_returns
    exact ⟨ret_bool (by rw [← HV.out]; exact (decide_eq_false (fun h => H1.out h.1)).symm), hA _⟩
  have d1 : (e0 == pa) = true := by simp [h1]
  have H1 := Lib.hid h1
  clear h1
  by_cases h2 : e1 = pb
  rotate_left
  · have d2 : (e1 == pb) = false := by simp [h2]
    have H2 := Lib.hid h2
    clear h2
    go_enter Try.func44, Try.ntmps44
    go_wp2_with fail
    go_returns
    exact ⟨ret_bool (by rw [← HV.out]; exact (decide_eq_false (fun h => H2.out h.2.1)).symm), hA _⟩
  have d2 : (e1 == pb) = true := by simp [h2]
  have H2 := Lib.hid h2
  clear h2
  by_cases h3 : e2 ≤ d
  rotate_left
  · have d3 : decide (e2 ≤ d) = false := by simp; omega
    have n3 : d < e2 := by omega
    clear h3
    go_enter Try.func44, Try.ntmps44
    go_wp2_with fail
    go_returns
    exact ⟨ret_bool (by rw [← HV.out]; exact (decide_eq_false (fun h => by have := h.2.2.1; omega)).symm), hA _⟩
  by_cases h4 : d ≤ e3
  rotate_left
  · have d4 : decide (d ≤ e3) = false := by simp; omega
    have n4 : e3 < d := by omega
    clear h4
    go_enter Try.func44, Try.ntmps44
    go_wp2_with fail
    go_returns
    exact ⟨ret_bool (by rw [← HV.out]; exact (decide_eq_false (fun h => by have := h.2.2.2; omega)).symm), hA _⟩
  go_enter Try.func44, Try.ntmps44
  go_wp2_with fail
  go_returns
  exact ⟨ret_bool (by rw [← HV.out]; exact (decide_eq_true (⟨H1.out, H2.out, h3, h4⟩)).symm), hA _⟩
theorem ifEdge_any (n c : Nat) (ad : Option Addr) (b1 b2 b3 : Nat) (X : Nat → Nat → Int) (B : Nat → Bool) (w : World) (hR : Rows 4 w (.slice ad n c) n X) (hn : n ≤ 9223372036854775807)
    (hf : ∀ i, i < n → ∀ w', Below w.heap.size w w' → Calls Try.prog 44 #[.agg #[.int .i64 ((X i 0)), .int .i64 ((X i 1)), .int .i64 ((X i 2)), .int .i64 ((X i 3))], .pointer (some ⟨b1, 0, none⟩), .pointer (some ⟨b2, 0, none⟩), .pointer (some ⟨b3, 0, none⟩)] w' fun e w'' => e = .returned (.bool (B i)) ∧ Below w'.heap.size w' w'') {r : Int} (hr : fstI B n = r) :
    Calls Try.prog 80 #[.slice ad n c, .func (.func 44) #[] #[.pointer (some ⟨b1, 0, none⟩), .pointer (some ⟨b2, 0, none⟩), .pointer (some ⟨b3, 0, none⟩)]] w fun e w' => e = .returned (.int .i64 r) ∧ Below w.heap.size w w' := by
  have HR := Lib.hid hR
  have HF := Lib.hid hf
  have RR := Lib.hid hr
  clear hR hf hr
  go_enter Try.func80, Try.ntmps80
  go_wp2
  go_loopw [8] (fun i wr => ∃ k : Nat, k ≤ n ∧ i = .int .i64 k ∧ Below w.heap.size w wr ∧ ∀ m, m < k → B m = false) (fun i _ => n - (intOf i).toNat)
  case atStart => exact ⟨0, by omega, rfl, Below.refl _ _, fun m hm => by omega⟩
  case round =>
    obtain ⟨k, hk, rfl, hb, hall⟩ := hrel
    have ALL := Lib.hid hall
    clear hall
    by_cases hlt : k < n
    · obtain ⟨g, o, rfl, hc⟩ := HR.out.row hlt
      have c0 := cell_later hb (hc 0 (by omega))
      have c1 := cell_later hb (hc 1 (by omega))
      have c2 := cell_later hb (hc 2 (by omega))
      have c3 := cell_later hb (hc 3 (by omega))
      simp only [Nat.add_zero] at c0 
      clear hc
      obtain ⟨v, hv⟩ : ∃ v, B k = v := ⟨_, rfl⟩
      have F := Lib.hid (HF.out k hlt wr hb)
      rw [hv] at F
      have V := Lib.hid hv
      clear hv
      go_wp2_with fail
      (with_reducible refine F.out.mono ?_)
      rintro e w1 ⟨rfl, hb1⟩
      have hb2 := below_step hb hb1
      clear F hb1 c0 c1 c2 c3
      cases v
      · go_wp2_with fail
        go_roundw
        case rel => exact ⟨k + 1, by omega, by go_num, hb2, fun m hm => by
          rcases Nat.lt_or_ge m k with h | h
          · exact ALL.out m h
          · obtain rfl : m = k := by omega
            exact V.out⟩
        case measure => simp [intOf]; omega
      · go_wp2_with fail
        go_returns
        exact ⟨ret_int (by rw [← RR.out]; exact (fstI_at hlt ALL.out V.out).symm), hb2⟩
    · obtain rfl : k = n := by omega
      go_wp2_with fail
      go_returns
      exact ⟨ret_int (by rw [← RR.out]; exact (fstI_none ALL.out).symm), hb⟩
theorem cfEdge_any (n c : Nat) (ad : Option Addr) (b1 b2 b3 : Nat) (X : Nat → Nat → Int) (B : Nat → Bool) (w : World) (hR : Rows 4 w (.slice ad n c) n X) (hn : n ≤ 9223372036854775807)
    (hf : ∀ i, i < n → ∀ w', Below w.heap.size w w' → Calls Try.prog 44 #[.agg #[.int .i64 ((X i 0)), .int .i64 ((X i 1)), .int .i64 ((X i 2)), .int .i64 ((X i 3))], .pointer (some ⟨b1, 0, none⟩), .pointer (some ⟨b2, 0, none⟩), .pointer (some ⟨b3, 0, none⟩)] w' fun e w'' => e = .returned (.bool (B i)) ∧ Below w'.heap.size w' w'') {r : Bool} (hr : anyN B n = r) :
    Calls Try.prog 45 #[.slice ad n c, .func (.func 44) #[] #[.pointer (some ⟨b1, 0, none⟩), .pointer (some ⟨b2, 0, none⟩), .pointer (some ⟨b3, 0, none⟩)]] w fun e w' => e = .returned (.bool r) ∧ Below w.heap.size w w' := by
  obtain ⟨q, hq⟩ : ∃ q, fstI B n = q := ⟨_, rfl⟩
  have F := Lib.hid (fun w' hb => ifEdge_any n c ad b1 b2 b3 X B w' (hR.later hb) hn (fun i hi w'' hb' => hf i hi w'' (below_step hb hb')) hq)
  have hqr : decide (0 ≤ q) = r := by rw [← hq, fstI_any, hr]
  have Q := Lib.hid hqr
  clear hR hf hr hq hqr
  go_enter Try.func45, Try.ntmps45
  go_wp2_with fail
  (with_reducible refine (F.out _ (Below.refl _ _)).mono ?_)
  rintro e w1 ⟨rfl, hb1⟩
  go_wp2_with fail
  go_returns
  exact ⟨ret_bool Q.out, hb1⟩
set_option maxHeartbeats 4000000 in
theorem hTrack_any (np c ne c2 nl c3 : Nat) (ad ad2 ad3 : Option Addr) (X E L : Nat → Nat → Int) (w : World) (hX : Rows 2 w (.slice ad np c) np X) (hE : Rows 4 w (.slice ad2 ne c2) ne E) (hL : Rows 2 w (.slice ad3 nl c3) nl L) (hn1 : np ≤ 9223372036854775807) (hn2 : ne ≤ 9223372036854775807) (hn3 : nl ≤ 9223372036854775807) {v : Bool} (hv : decide (TrackOk np X ne E nl L) = v) :
    Calls Try.prog 16 #[.agg #[.slice ad np c, .slice ad2 ne c2], .slice ad3 nl c3] w fun e w' => e = .returned (.bool v) ∧ Below w.heap.size w w' := by
  have HX := Lib.hid hX
  have HE := Lib.hid hE
  have HL := Lib.hid hL
  have HV := Lib.hid hv
  clear hX hE hL hv
  obtain ⟨v1, gv1⟩ : ∃ v1, decide (NetOk np X ne E) = v1 := ⟨_, rfl⟩
  have V1 := Lib.hid gv1
  clear gv1
  go_enter Try.func16, Try.ntmps16
  go_wp2_with fail
  refine calls_named fun W hW => ?_
  obtain ⟨p1, hB⟩ := box1 hW
  clear hW
  have q1 := cellsL p1
  have hB0 := Below.refl W.heap.size W
  have P1 := Lib.hid p1
  clear p1
  (with_reducible refine (hValid_any _ _ _ _ _ _ _ _ _ (HX.out.later hB) (HE.out.later hB) hn1 hn2 V1.out).mono ?_)
  rintro e w1 ⟨rfl, hb1⟩
  have hB1 := below_step hB0 hb1
  cases v1
  · go_wp2_with fail
    go_returns
    exact ⟨ret_bool (by rw [← HV.out]; exact (decide_eq_false (fun h => of_decide_eq_false V1.out h.1)).symm), below_step hB hB1⟩
  by_cases h1 : nl = 0
  · subst h1
    go_wp2_with fail
    go_returns
    exact ⟨ret_bool (by rw [← HV.out]; exact (decide_eq_false (fun h => by have := h.2.1; omega)).symm), below_step hB hB1⟩
  have d1 : ((nl : Int) == 0) = false := by simp; omega
  have n1 : 1 ≤ nl := by omega
  by_cases h2 : 1000 < nl
  · have e2 : (1000 : Int) < (nl : Int) := by omega
    go_wp2_with fail
    go_returns
    exact ⟨ret_bool (by rw [← HV.out]; exact (decide_eq_false (fun h => by have := h.2.2.1; omega)).symm), below_step hB hB1⟩
  have d2 : decide (1000 < nl) = false := by simp; omega
  have e2 : decide ((1000 : Int) < (nl : Int)) = false := by simp; omega
  have n2 : nl ≤ 1000 := by omega
  clear h1 h2
  go_wp2_with fail
  clear q1
  go_loopw [25] (fun i wr => ∃ k : Nat, k ≤ nl ∧ i = .int .i64 k ∧ Below W.heap.size W wr ∧ StopsOk np ne E k L) (fun i _ => nl - (intOf i).toNat)
  case atStart => exact ⟨0, by omega, rfl, hB1, ⟨fun m hm => by omega, fun m hm => by omega⟩⟩
  case round =>
    obtain ⟨k, hk, rfl, hbr, hall⟩ := hrel
    have ALL := Lib.hid hall
    clear hall
    by_cases hlt : k < nl
    rotate_left
    · obtain rfl : k = nl := by omega
      go_wp2_with fail
      go_returns
      exact ⟨ret_bool (by rw [← HV.out]; exact (decide_eq_true ⟨of_decide_eq_true V1.out, by omega, by omega, ALL.out⟩).symm), below_step hB hbr⟩
    obtain ⟨g, o, rfl, hc⟩ := HL.out.row hlt
    have c0 := cell_later (below_step hB hbr) (hc 0 (by omega))
    have c1 := cell_later (below_step hB hbr) (hc 1 (by omega))
    simp only [Nat.add_zero] at c0
    clear hc
    have q1 := cellsL P1.out
    have hA := fun o => hbr.alloc hbr.size o
    obtain ⟨v2, gv2⟩ : ∃ v2, decide (0 ≤ L k 0 ∧ L k 0 < (np : Int)) = v2 := ⟨_, rfl⟩
    have V2 := Lib.hid gv2
    clear gv2
    go_wp2_with fail
    refine calls_named fun y hy => ?_
    obtain ⟨pe, hby⟩ := box1 hy
    have hBy := below_step hbr hby
    clear hy hA c0 c1
    have PE := Lib.hid pe
    have qe := cellsL pe
    clear pe
    have hy0 := Below.refl y.heap.size y
    (with_reducible refine (hIsPlace_any _ _ _ _ _ _ _ _ hn1 V2.out).mono ?_)
    rintro e w2 ⟨rfl, hb2⟩
    have hB2 := below_step hBy hb2
    cases v2
    · go_wp2_with fail
      go_returns
      exact ⟨ret_bool (by rw [← HV.out]; exact (decide_eq_false (fun h => of_decide_eq_false V2.out (h.2.2.2.1 k hlt).1)).symm), below_step hB hB2⟩
    have hy2 := below_step hy0 hb2
    by_cases h2 : L k 1 < -1000
    · go_wp2_with fail
      go_returns
      exact ⟨ret_bool (by rw [← HV.out]; exact (decide_eq_false (fun h => by have := (h.2.2.2.1 k hlt).2.1; omega)).symm), below_step hB hB2⟩
    have d2 : decide (L k 1 < -1000) = false := by simp; omega
    have n2 : -1000 ≤ L k 1 := by omega
    clear h2
    by_cases h3 : 10000000 < L k 1
    · go_wp2_with fail
      go_returns
      exact ⟨ret_bool (by rw [← HV.out]; exact (decide_eq_false (fun h => by have := (h.2.2.2.1 k hlt).2.2; omega)).symm), below_step hB hB2⟩
    have d3 : decide (10000000 < L k 1) = false := by simp; omega
    have n3 : L k 1 ≤ 10000000 := by omega
    clear h3
    have SK : StopOk np (L k) := ⟨of_decide_eq_true V2.out, by omega, by omega⟩
    have SO := Lib.hid SK
    clear SK
    rcases Nat.eq_zero_or_pos k with hk0 | hk0
    · subst hk0
      go_wp2_with fail
      go_roundw
      case rel => exact ⟨0 + 1, by omega, by go_num, hB2, stopsOk_snoc ALL.out SO.out (fun m hm => by omega)⟩
      case measure => simp [intOf]; omega
    obtain ⟨m, rfl⟩ : ∃ m, k = m + 1 := ⟨k - 1, by omega⟩
    obtain ⟨g2, o2, hg2, hc⟩ := HL.out.row (show m < nl by omega)
    obtain ⟨rfl, rfl⟩ : g = g2 ∧ o = o2 := by simpa using hg2
    have c0 := cell_later (below_step hB hB2) (hc 0 (by omega))
    have c1 := cell_later (below_step hB hB2) (hc 1 (by omega))
    have hA := fun o => hB2.alloc hB2.size o
    have hAy := fun o => hy2.alloc hy2.size o
    simp only [Nat.add_zero] at c0
    have S2 := ALL.out.1 m (by omega)
    obtain ⟨-, s21, s22⟩ := S2
    have jz : ((m : Int) + 1 == 0) = false := by simp; omega
    have jz' : (((m + 1 : Nat) : Int) == 0) = false := by simp; omega
    have jp : 0 ≤ (m : Int) + 1 := by omega
    have jl : (m : Int) + 1 < (nl : Int) := by omega
    have jli : (m : Int) < (nl : Int) := by omega
    have jln : m < nl := by omega
    clear hc hg2
    go_upto_region 10 with (fail)
    refine wp_named fun y7 hy7 => ?_
    obtain ⟨p7, hby7⟩ := box1 hy7
    have hB7 := below_step hB2 hby7
    have hy7' := below_step hy2 hby7
    have P7 := Lib.hid p7
    have q7 := cell_block p7
    have q6 := cell_block (block_later hy7' PE.out)
    clear hy7 hA hAy c0 c1 p7 jz jz'
    have hA := fun o => hB7.alloc hB7.size o
    go_upto_region 12 with (fail)
    refine wp_named fun y8 hy8 => ?_
    obtain ⟨p8, hby8⟩ := box1 hy8
    have hB8 := below_step hB7 hby8
    have hy8' := below_step hy7' hby8
    have P8 := Lib.hid p8
    clear hy8 hA p8 q7 q6
    have P7' := Lib.hid (block_later hby8 P7.out)
    have PE' := Lib.hid (block_later hy8' PE.out)
    clear qe
    have q7 := cell_block P7'.out
    have q6 := cell_block PE'.out
    have q8 := cell_block P8.out
    have SV := Lib.hid (fun h => stopsOk_step (m := m) ALL.out SO.out h)
    obtain ⟨bb, hbb⟩ : ∃ bb, anyN (fun i => decide (SailOk (E i) (L m 0) (L (m + 1) 0) (L (m + 1) 1 - L m 1))) ne = bb := ⟨_, rfl⟩
    have AN := Lib.hid hbb
    have CF := Lib.hid (cfEdge_any ne c2 ad2 w2.heap.size wr.heap.size y7.heap.size E (fun i => decide (SailOk (E i) (L m 0) (L (m + 1) 0) (L (m + 1) 1 - L m 1))) y8 (HE.out.later (below_step hB hB8)) hn2
      (fun i hi w' hb' => hTrack1_any _ _ _ _ (L m 0) (L m 1) (L (m + 1) 0) (L (m + 1) 1) (L (m + 1) 1 - L m 1) _ _ _ w' (block_later hb' P7'.out) (block_later hb' PE'.out) (block_later hb' P8.out) (decide_eq_decide.2 Iff.rfl)) hbb)
    clear hbb
    by_cases hpp : L m 0 = L (m + 1) 0
    rotate_left
    · have dpp : (L m 0 == L (m + 1) 0) = false := by simp [hpp]
      have HP := Lib.hid hpp
      clear hpp
      go_wp2_with fail
      (with_reducible refine CF.out.mono ?_)
      rintro e w9 ⟨rfl, hb9⟩
      have hB9 := below_step hB8 hb9
      clear CF q6 q7 q8
      cases bb
      · go_wp2_with fail
        go_returns
        exact ⟨ret_bool (by rw [← HV.out]; exact (decide_eq_false (fun h => by
          have hl := h.2.2.2.2 m (by omega)
          rcases hl with hl | ⟨i, hi, hl⟩
          · exact HP.out hl.1
          · have hx : anyN (fun i => decide (SailOk (E i) (L m 0) (L (m + 1) 0) (L (m + 1) 1 - L m 1))) ne = true := anyN_iff.2 ⟨i, hi, decide_eq_true hl⟩
            rw [AN.out] at hx
            cases hx)).symm), below_step hB hB9⟩
      · go_wp2_with fail
        go_roundw
        case rel => exact ⟨m + 1 + 1, by omega, by go_num, hB9, SV.out (by
          obtain ⟨i, hi, hl⟩ := anyN_iff.1 AN.out
          exact .inr ⟨i, hi, of_decide_eq_true hl⟩)⟩
        case measure => simp [intOf]; omega
    have dpp : (L m 0 == L (m + 1) 0) = true := by simp [hpp]
    have HP := Lib.hid hpp
    clear hpp
    by_cases hdd : L m 1 < L (m + 1) 1
    rotate_left
    · have ddd : decide (L m 1 < L (m + 1) 1) = false := by simp; omega
      have HD := Lib.hid hdd
      clear hdd
      go_wp2_with fail
      (with_reducible refine CF.out.mono ?_)
      rintro e w9 ⟨rfl, hb9⟩
      have hB9 := below_step hB8 hb9
      clear CF q6 q7 q8
      cases bb
      · go_wp2_with fail
        go_returns
        exact ⟨ret_bool (by rw [← HV.out]; exact (decide_eq_false (fun h => by
          have hl := h.2.2.2.2 m (by omega)
          rcases hl with hl | ⟨i, hi, hl⟩
          · have := HD.out; have := hl.2; omega
          · have hx : anyN (fun i => decide (SailOk (E i) (L m 0) (L (m + 1) 0) (L (m + 1) 1 - L m 1))) ne = true := anyN_iff.2 ⟨i, hi, decide_eq_true hl⟩
            rw [AN.out] at hx
            cases hx)).symm), below_step hB hB9⟩
      · go_wp2_with fail
        go_roundw
        case rel => exact ⟨m + 1 + 1, by omega, by go_num, hB9, SV.out (by
          obtain ⟨i, hi, hl⟩ := anyN_iff.1 AN.out
          exact .inr ⟨i, hi, of_decide_eq_true hl⟩)⟩
        case measure => simp [intOf]; omega
    clear CF
    go_wp2_with fail
    go_roundw
    case rel => exact ⟨m + 1 + 1, by omega, by go_num, hB8, SV.out (.inl ⟨HP.out, by omega⟩)⟩
    case measure => simp [intOf]; omega
end Go.Proofs.Ytcpnkhiillgffaa
