/- The walks of the law file's small functions: ends, below. -/
import Derived.Test.YtcpnkhiillgffaaRhA
import Derived.Test.YtcpnkhiillgffaaReachL
import Derived.Test.YtcpnkhiillgffaaRhC
namespace Go.Proofs.Ytcpnkhiillgffaa
open Go.RowKit
attribute [local go_sem] bqOp bqAll bqUpon
attribute [local irreducible] wpQuiet wpBQ
set_option linter.unusedVariables false
theorem field_stop0 (a b : Int) (w : World) : Sem.run Try.prog (Instr.field 54 (.agg #[.int .i64 a, .int .i64 b]) 0) w = Result.ok (.int .i64 a) w := by kernel_rfl
theorem field_stop1 (a b : Int) (w : World) : Sem.run Try.prog (Instr.field 54 (.agg #[.int .i64 a, .int .i64 b]) 1) w = Result.ok (.int .i64 b) w := by kernel_rfl
def TabsLe (n m : Nat) (l1 l2 : Nat → Nat) (T U : Nat → Nat → Int) : Prop := n = m ∧ ∀ t, t < n → l1 t = l2 t ∧ ∀ j, j < l1 t → T t j ≤ U t j
instance (n m : Nat) (l1 l2 : Nat → Nat) (T U : Nat → Nat → Int) : Decidable (TabsLe n m l1 l2 T U) := by unfold TabsLe; exact inferInstance
theorem l33ends_any (n c : Nat) (ad : Option Addr) (L : Nat → Nat → Int) (w : World) (hL : Rows 2 w (.slice ad n c) n L) (hn : 1 ≤ n) {a b : Int} (ha : L (n - 1) 0 = a) (hb : L (n - 1) 1 = b) :
    Calls Try.prog 31 #[.slice ad n c] w fun e w' => e = .returned (.agg #[.int .i64 a, .int .i64 b]) ∧ Below w.heap.size w w' := by
  obtain ⟨ad', c', e, hnm, hc⟩ := hL
  cases e
  obtain ⟨g, o, rfl, hx⟩ := hc (n - 1) (by omega)
  have h0 := hx 0 (by omega)
  have h1 := hx 1 (by omega)
  rw [ha, show o + (n - 1) * 2 + 0 = o + (n - 1) * 2 by omega] at h0
  rw [hb] at h1
  clear ha hb hx hc
  have C0 := Lib.hid h0
  have C1 := Lib.hid h1
  clear h0 h1
  obtain ⟨k, rfl⟩ : ∃ k, n = k + 1 := ⟨n - 1, by omega⟩
  rw [Nat.add_sub_cancel] at C0 C1
  have hA := fun o' => (Below.refl w.heap.size w).alloc (Nat.le_refl _) o'
  have c0 := fun o' => cell_later (hA o') C0.out
  have c1 := fun o' => cell_later (hA o') C1.out
  go_enter Try.func31, Try.ntmps31
  go_wp2_with fail
  exact bodyPost_ret (v := .agg #[.int .i64 a, .int .i64 b]) (by simp [results, Try.results31, go_sem]) rfl ⟨rfl, hA _⟩
set_option maxHeartbeats 2000000 in
theorem l33below_any (n c m c2 : Nat) (ad ad2 : Option Addr) (l1 l2 : Nat → Nat) (T U : Nat → Nat → Int) (w : World) (hT : Tab w (.slice ad n c) n l1 T) (hU : Tab w (.slice ad2 m c2) m l2 U) (hn : n ≤ 9223372036854775807) (hm : m ≤ 9223372036854775807)
    {v : Bool} (hv : decide (TabsLe n m l1 l2 T U) = v) :
    Calls Try.prog 33 #[.slice ad n c, .slice ad2 m c2] w fun e w' => e = .returned (.bool v) ∧ Below w.heap.size w w' := by
  have HT := Lib.hid hT
  have HU := Lib.hid hU
  have HV := Lib.hid hv
  clear hT hU hv
  by_cases hnm : n = m
  rotate_left
  · have d1 : ((n : Int) != (m : Int)) = true := by simp; omega
    have d2 : ((n : Int) == (m : Int)) = false := by simp; omega
    have NM := Lib.hid hnm
    clear hnm
    go_enter Try.func33, Try.ntmps33
    go_wp2_with fail
    go_returns
    exact ⟨ret_bool (by rw [← HV.out]; exact (decide_eq_false (fun h => NM.out h.1)).symm), Below.refl _ _⟩
  subst hnm
  go_enter Try.func33, Try.ntmps33
  go_wp2
  go_loopw [14] (fun i wr => ∃ k : Nat, k ≤ n ∧ i = .int .i64 k ∧ Below w.heap.size w wr ∧ ∀ t, t < k → l1 t = l2 t ∧ ∀ j, j < l1 t → T t j ≤ U t j) (fun i _ => n - (intOf i).toNat)
  case atStart => exact ⟨0, by omega, rfl, Below.refl _ _, fun t ht => by omega⟩
  case round =>
    obtain ⟨k, hk, rfl, hbr, hall⟩ := hrel
    have ALL := Lib.hid hall
    clear hall
    by_cases hlt : k < n
    rotate_left
    · obtain rfl : k = n := by omega
      go_wp2_with fail
      go_returns
      exact ⟨ret_bool (by rw [← HV.out]; exact (decide_eq_true ⟨rfl, ALL.out⟩).symm), hbr⟩
    obtain ⟨g, o, a, ca, rfl, hc, hl, hr⟩ := HT.out.row hlt
    obtain ⟨g2, o2, a2, ca2, rfl, hc2, hl2, hr2⟩ := HU.out.row hlt
    have C1 := Lib.hid hc
    have C2 := Lib.hid hc2
    have R1 := Lib.hid hr
    have R2 := Lib.hid hr2
    obtain ⟨x1, e1⟩ : ∃ x1, l1 k = x1 := ⟨_, rfl⟩
    obtain ⟨x2, e2⟩ : ∃ x2, l2 k = x2 := ⟨_, rfl⟩
    rw [e1] at C1 R1 hl
    rw [e2] at C2 R2 hl2
    have E1 := Lib.hid e1
    have E2 := Lib.hid e2
    clear hc hc2 hr hr2 e1 e2
    go_wp2_with fail
    have q1 := fun d os => cell_later (below_regrown wr d os) (cell_later hbr C1.out)
    have q2 := fun d os => cell_later (below_regrown wr d os) (cell_later hbr C2.out)
    by_cases hxx : x1 = x2
    rotate_left
    · have d1 : ((x1 : Int) != (x2 : Int)) = true := by simp; omega
      have d2 : ((x1 : Int) == (x2 : Int)) = false := by simp; omega
      have NX := Lib.hid hxx
      clear hxx
      (refine wp_region_quiet_below (by kernel_rfl) (by kernel_rfl) ?_; (repeat (refine wpQuiet_step (fun K hK => ?_); replace hK := Lib.hid hK; go_simp; first | (refine hK.out _ ?_; clear hK K) | (apply Exists.intro; refine ⟨fun _ => ?_, hK.out _ ?_⟩; (fail); clear hK K))); refine wpQuiet_nil ?_)
      intro w1 hr1
      have hB1 := below_step hbr (regrown_below hr1)
      clear hr1 q1 q2
      go_wp2_with fail
      go_returns
      exact ⟨ret_bool (by rw [← HV.out]; exact (decide_eq_false (fun h => NX.out (by rw [← E1.out, ← E2.out]; exact (h.2 k hlt).1))).symm), hB1⟩
    subst hxx
    have d1 : ((x1 : Int) != (x1 : Int)) = false := by simp
    (refine wp_region_quiet_below (by kernel_rfl) (by kernel_rfl) ?_; (repeat (refine wpQuiet_step (fun K hK => ?_); replace hK := Lib.hid hK; go_simp; first | (refine hK.out _ ?_; clear hK K) | (apply Exists.intro; refine ⟨fun _ => ?_, hK.out _ ?_⟩; (fail); clear hK K))); refine wpQuiet_nil ?_)
    intro w1 hr1
    have hB1 := below_step hbr (regrown_below hr1)
    clear hr1 q1 q2 d1
    have q1 := cell_later hB1 C1.out
    go_wp2_with fail
    clear q1
    go_loopw [33] (fun i ws => ∃ j : Nat, j ≤ x1 ∧ i = .int .i64 j ∧ Below w.heap.size w ws ∧ ∀ j', j' < j → T k j' ≤ U k j') (fun i _ => x1 - (intOf i).toNat)
    case atStart => exact ⟨0, by omega, rfl, hB1, fun j' hj => by omega⟩
    case round =>
      obtain ⟨j, hj, rfl, hbs, hall⟩ := hrel
      have ALJ := Lib.hid hall
      clear hall
      have q1 := cell_later hbs C1.out
      by_cases hjt : j < x1
      rotate_left
      · obtain rfl : j = x1 := by omega
        go_wp2_with fail
        go_roundw
        case rel => exact ⟨k + 1, by omega, by go_num, hbs, fun t ht => by
          rcases Nat.lt_or_ge t k with h | h
          · exact ALL.out t h
          · obtain rfl : t = k := by omega
            exact ⟨by rw [E1.out, E2.out], fun j' hj' => ALJ.out j' (by rw [← E1.out]; exact hj')⟩⟩
        case measure => simp [intOf]; omega
      obtain ⟨g3, o3, rfl, hc3⟩ := R1.out.int hjt
      obtain ⟨g4, o4, rfl, hc4⟩ := R2.out.int hjt
      obtain ⟨y1, f1⟩ : ∃ y1, T k j = y1 := ⟨_, rfl⟩
      obtain ⟨y2, f2⟩ : ∃ y2, U k j = y2 := ⟨_, rfl⟩
      rw [f1] at hc3
      rw [f2] at hc4
      have C3 := Lib.hid hc3
      have C4 := Lib.hid hc4
      have Y1 := Lib.hid f1
      have Y2 := Lib.hid f2
      clear hc3 hc4 f1 f2
      go_wp2_with fail
      clear q1
      have q1 := fun d os => cell_later (below_regrown _ d os) (cell_later hbs C1.out)
      have q2 := fun d os => cell_later (below_regrown _ d os) (cell_later hbs C2.out)
      have q3 := fun d os => cell_later (below_regrown _ d os) (cell_later hbs C3.out)
      have q4 := fun d os => cell_later (below_regrown _ d os) (cell_later hbs C4.out)
      (refine wp_region_quiet_below (by kernel_rfl) (by kernel_rfl) ?_; (repeat (refine wpQuiet_step (fun K hK => ?_); replace hK := Lib.hid hK; go_simp; first | (refine hK.out _ ?_; clear hK K) | (apply Exists.intro; refine ⟨fun _ => ?_, hK.out _ ?_⟩; (fail); clear hK K))); refine wpQuiet_nil ?_)
      intro w2 hr2
      have hB2 := below_step hbs (regrown_below hr2)
      clear hr2 q1 q2 q3 q4
      by_cases hyy : y1 ≤ y2
      rotate_left
      · have d1 : y2 < y1 := by omega
        have NX := Lib.hid hyy
        clear hyy
        go_wp2_with fail
        go_returns
        exact ⟨ret_bool (by rw [← HV.out]; exact (decide_eq_false (fun h => by have h1 := (h.2 k hlt).2 j (by rw [E1.out]; exact hjt); rw [Y1.out, Y2.out] at h1; have h2 := NX.out; omega)).symm), hB2⟩
      have YY := Lib.hid hyy
      go_wp2_with fail
      go_roundw
      case rel => exact ⟨j + 1, by omega, by go_num, hB2, fun j' hj' => by
        rcases Nat.lt_or_ge j' j with h | h
        · exact ALJ.out j' h
        · obtain rfl : j' = j := by omega
          rw [Y1.out, Y2.out]; exact YY.out⟩
      case measure => simp [intOf]; omega
theorem tab_nil (w : World) (len : Nat → Nat) (T : Nat → Nat → Int) : Tab w (.slice none 0 0) 0 len T := ⟨none, 0, rfl, by omega, fun t ht => by omega⟩
/-- How many rows the table has, and its error. -/
def tabN (np : Nat) (X : Nat → Nat → Int) (ne : Nat) (E : Nat → Nat → Int) (na : Nat) (A : Nat → Nat → Int) (f u : Int) : Nat := if TblOk np X ne E na A f u then (u - f + 1).toNat else 0
def tabE (np : Nat) (X : Nat → Nat → Int) (ne : Nat) (E : Nat → Nat → Int) (na : Nat) (A : Nat → Nat → Int) (f u : Int) : Int := if TblOk np X ne E na A f u then 0 else 1
def TabQ (np : Nat) (X : Nat → Nat → Int) (ne : Nat) (E : Nat → Nat → Int) (na : Nat) (A : Nat → Nat → Int) (f u : Int) (w : World) (z : Ending) (w' : World) : Prop :=
  ∃ adt ct, z = .returned (.tuple #[.slice adt (tabN np X ne E na A f u) ct, .int .i64 (tabE np X ne E na A f u)]) ∧ Below w.heap.size w w' ∧ Tab w' (.slice adt (tabN np X ne E na A f u) ct) (tabN np X ne E na A f u) (fun _ => np) (tblI X A E na f u ne)
theorem tabQ_no {np ne na : Nat} {X E A : Nat → Nat → Int} {f u : Int} {w w' : World} {z : Ending} (g : ¬ TblOk np X ne E na A f u) (h : z = .returned (.tuple #[.slice none 0 0, .int .i64 1]) ∧ Below w.heap.size w w') : TabQ np X ne E na A f u w z w' := by
  unfold TabQ tabN tabE
  rw [if_neg g, if_neg g]
  exact ⟨none, 0, h.1, h.2, tab_nil _ _ _⟩
theorem tabQ_yes {np ne na : Nat} {X E A : Nat → Nat → Int} {f u : Int} {w w' : World} {z : Ending} (g : TblOk np X ne E na A f u) (h : TabP np ne na X E A f u w z w') : TabQ np X ne E na A f u w z w' := by
  unfold TabQ tabN tabE
  rw [if_pos g, if_pos g]
  obtain ⟨tv, hz, hb, ht⟩ := h
  obtain ⟨adt, ct, rfl, htt, -⟩ := ht.form
  exact ⟨adt, ct, hz, hb, htt⟩
theorem hTable_all (np c ne c2 na c4 : Nat) (ad ad2 ad4 : Option Addr) (X E A : Nat → Nat → Int) (f u : Int) (w : World) (hX : Rows 2 w (.slice ad np c) np X) (hE : Rows 4 w (.slice ad2 ne c2) ne E) (hA : Rows 4 w (.slice ad4 na c4) na A) (hn1 : np ≤ 9223372036854775807) (hn2 : ne ≤ 9223372036854775807) (hn4 : na ≤ 9223372036854775807) :
    Calls Try.prog 22 #[.agg #[.slice ad np c, .slice ad2 ne c2], .slice ad4 na c4, .int .i64 f, .int .i64 u] w (TabQ np X ne E na A f u w) := by
  by_cases g : TblOk np X ne E na A f u
  · exact (hTable_yes np c ne c2 na c4 ad ad2 ad4 X E A f u w hX hE hA hn1 hn2 hn4 g.1 g.2.1 g.2.2).mono fun z w' h => tabQ_yes g h
  · exact (hTable_no np c ne c2 na c4 ad ad2 ad4 X E A f u w hX hE hA hn1 hn2 hn4 g).mono fun z w' h => tabQ_no g h
theorem q33Table_all (np c ne c2 na c4 : Nat) (ad ad2 ad4 : Option Addr) (X E A : Nat → Nat → Int) (f u : Int) (w : World) (hX : Rows 2 w (.slice ad np c) np X) (hE : Rows 4 w (.slice ad2 ne c2) ne E) (hA : Rows 4 w (.slice ad4 na c4) na A) (hn1 : np ≤ 9223372036854775807) (hn2 : ne ≤ 9223372036854775807) (hn4 : na ≤ 9223372036854775807) :
    Calls Try.prog 23 #[.agg #[.slice ad np c, .slice ad2 ne c2], .slice ad4 na c4, .int .i64 f, .int .i64 u] w (TabQ np X ne E na A f u w) := by
  by_cases g : TblOk np X ne E na A f u
  · exact (q33Table_yes np c ne c2 na c4 ad ad2 ad4 X E A f u w hX hE hA hn1 hn2 hn4 g.1 g.2.1 g.2.2).mono fun z w' h => tabQ_yes g h
  · exact (q33Table_no np c ne c2 na c4 ad ad2 ad4 X E A f u w hX hE hA hn1 hn2 hn4 g).mono fun z w' h => tabQ_no g h
theorem tabs_same (n np : Nat) (T : Nat → Nat → Int) : TabsEq n n (fun _ => np) (fun _ => np) T T := ⟨rfl, fun t ht => ⟨rfl, fun j hj => rfl⟩⟩
end Go.Proofs.Ytcpnkhiillgffaa
